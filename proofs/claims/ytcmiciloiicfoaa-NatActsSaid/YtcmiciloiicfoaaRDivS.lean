/- dspcompilerref01.DivMod where the divisor is 0, has one digit, or is greater than the dividend. -/
import Derived.Test.YtcmiciloiicfoaaRDivLaw
import Derived.Test.YtcmiciloiicfoaaRSmall
import Derived.Test.YtcmiciloiicfoaaRCmp
namespace Go.Proofs.Ytcmiciloiicfoaa
open Go.RowKit Go.Proofs.YtcmiciloiicfoaaW.PrintWords

set_option maxRecDepth 100000 in
set_option maxHeartbeats 400000 in
theorem rdiv_zero (A B : Option Addr) (c d n m : Nat) (xs ys : List Int) (w : World) (hx : Rd w A c xs) (hy : Rd w B d ys) (hn : n = xs.length) (hm : m = ys.length) (dy : Dg ys) (h : val ys = 0) :
    Calls Try.prog 44 #[.slice A n c, .slice B m d] w fun e w' => e = .returned (.tuple #[.slice none 0 0, .slice none 0 0, .int .i64 3]) ∧ Below w.heap.size w w' := by
  subst hn hm
  have hl := cutL_zero dy h
  have hb : (((cutL ys).length : Int) == 0) = true := by rw [hl]; rfl
  have KX := Lib.hid fun W h => rtrim_calls A c xs.length xs W h rfl
  have KY := Lib.hid fun W h => rtrim_calls B d ys.length ys W h rfl
  have HX := Lib.hid hx
  have HY := Lib.hid hy
  clear hx hy dy hl h
  generalize cutL xs = xs' at *
  generalize cutL ys = ys' at *
  go_enter Try.func44, Try.ntmps44
  go_wp2_with fail
  refine (KX.out _ HX.out).mono ?_
  rintro e w1 ⟨R1, k1, rfl, hO1, hB1⟩
  go_wp2_with fail
  refine (KY.out _ (HY.out.below hB1)).mono ?_
  rintro e w2 ⟨R2, k2, rfl, hO2, hB2⟩
  have HB := Lib.hid (below_then hB1 hB1.size hB2)
  clear hO1 hB1 hO2 hB2
  go_wp2_with fail
  go_ret3
  exact ⟨rfl, HB.out⟩

set_option maxRecDepth 100000 in
set_option maxHeartbeats 400000 in
theorem rdiv_one (A B : Option Addr) (c d n m : Nat) (xs ys : List Int) (w : World) (hx : Rd w A c xs) (hy : Rd w B d ys) (hn : n = xs.length) (hm : m = ys.length) (dx : Dg xs) (dy : Dg ys) (h1 : (cutL ys).length = 1) (lx : xs.length ≤ 16777215) :
    Calls Try.prog 44 #[.slice A n c, .slice B m d] w (Out3 w (canon (val xs / val ys)) (canon (val xs % val ys)) 0) := by
  subst hn hm
  have hle := cutL_length_le xs
  have KX := Lib.hid fun W h => rtrim_calls A c xs.length xs W h rfl
  have KY := Lib.hid fun W h => rtrim_calls B d ys.length ys W h rfl
  have HX := Lib.hid hx
  have HY := Lib.hid hy
  have HDX := Lib.hid (cutL_dg dx)
  have hdy := cutL_dg dy
  have hny := cutL_nm ys
  rw [← cutL_val xs, ← cutL_val ys]
  generalize cutL ys = ys' at *
  obtain ⟨y, rfl⟩ := List.length_eq_one_iff.1 h1
  have hy0 := hdy.head
  have hyn : y ≠ 0 := by have := hny (by simp); simpa using this
  have y0 : 0 < y := by omega
  have y1 := hy0.2
  rw [val_one]
  generalize cutL xs = xs' at *
  have m0 := Int.emod_nonneg (val xs') (show y ≠ 0 by omega)
  have m1 := Int.emod_lt_of_pos (val xs') y0
  clear hx hy dx dy h1 hdy hny hy0 hyn
  go_enter Try.func44, Try.ntmps44
  go_wp2_with fail
  refine (KX.out _ HX.out).mono ?_
  rintro e w1 ⟨R1, k1, rfl, hO1, hB1⟩
  have HO1 := Lib.hid hO1
  have HB1 := Lib.hid hB1
  clear hO1 hB1
  go_wp2_with fail
  refine (KY.out _ (HY.out.below HB1.out)).mono ?_
  rintro e w2 ⟨R2, k2, rfl, hO2, hB2⟩
  obtain ⟨g, rfl, _, _⟩ := hO2.form (by simp)
  have hc := hO2.cell 0 (by simp)
  rw [gd_zero] at hc
  have HB2 := Lib.hid (below_then HB1.out HB1.out.size hB2)
  have HR1 := Lib.hid (HO1.out.rd.below hB2)
  clear hO2 hB2 HO1
  go_wp2_with fail
  refine (rsmall_calls R1 k1 _ y xs' _ HR1.out rfl HDX.out y0 y1 (by omega)).mono ?_
  rintro e w3 ⟨Q, kq, rfl, hQ, hB3⟩
  have HQ := Lib.hid (hQ.mono HB2.out.size)
  have HB3 := Lib.hid (below_then HB2.out HB2.out.size hB3)
  clear hQ hB3 hc
  go_wp2_with fail
  refine (rtrim_calls _ 1 1 [val xs' % y] _ (lit1_at w3 w3.heap.size w3.heap.size (Nat.le_refl _) rfl _).rd rfl).mono ?_
  rintro e w4 ⟨R4, k4, rfl, hO4, hB4⟩
  rw [canon_small (by omega) (by omega)] at hO4 ⊢
  have HB4 := Lib.hid (below_then (HB3.out.alloc HB3.out.size _) (by have := HB3.out.size; simp; omega) hB4)
  have HO4 := Lib.hid (hO4.mono (base' := w.heap.size) (by have := HB3.out.size; simp; omega))
  have HQ4 := Lib.hid ((HQ.out.alloc _).below hB4)
  clear hO4 hB4
  go_wp2_with fail
  go_ret3
  exact Out3.mk' rfl rfl HQ4.out HO4.out HB4.out

set_option maxRecDepth 100000 in
set_option maxHeartbeats 400000 in
theorem rdiv_less (A B : Option Addr) (c d n m : Nat) (xs ys : List Int) (w : World) (hx : Rd w A c xs) (hy : Rd w B d ys) (hn : n = xs.length) (hm : m = ys.length) (dx : Dg xs) (dy : Dg ys) (h2 : 2 ≤ (cutL ys).length) (h : val xs < val ys) :
    Calls Try.prog 44 #[.slice A n c, .slice B m d] w (Out3 w (canon (val xs / val ys)) (canon (val xs % val ys)) 0) := by
  subst hn hm
  have h0 := val_nonneg dx
  have hq : canon (val xs / val ys) = [] := by rw [Int.ediv_eq_zero_of_lt h0 h]; exact canon_zero
  have hr : canon (val xs % val ys) = cutL xs := by rw [Int.emod_eq_of_lt h0 h]; exact (cutL_canon dx).symm
  rw [hq, hr]
  have hc : decide (cmpI (val xs) (val ys) < 0) = true := by rw [cmpI_lt h]; rfl
  have KX := Lib.hid fun W h => rtrim_calls A c xs.length xs W h rfl
  have KY := Lib.hid fun W h => rtrim_calls B d ys.length ys W h rfl
  have HX := Lib.hid hx
  have HY := Lib.hid hy
  have HDX := Lib.hid (cutL_dg dx)
  have HDY := Lib.hid (cutL_dg dy)
  have hb : (((cutL ys).length : Int) == 0) = false := by simp; intro he; rw [he] at h2; simp at h2
  have hb1 : (((cutL ys).length : Int) == 1) = false := by simp; omega
  rw [← cutL_val xs, ← cutL_val ys] at hc
  generalize cutL xs = xs' at *
  generalize cutL ys = ys' at *
  clear hx hy dx dy hq hr h h0
  go_enter Try.func44, Try.ntmps44
  go_wp2_with fail
  refine (KX.out _ HX.out).mono ?_
  rintro e w1 ⟨R1, k1, rfl, hO1, hB1⟩
  have HO1 := Lib.hid hO1
  have HB1 := Lib.hid hB1
  clear hO1 hB1
  go_wp2_with fail
  refine (KY.out _ (HY.out.below HB1.out)).mono ?_
  rintro e w2 ⟨R2, k2, rfl, hO2, hB2⟩
  have HB2 := Lib.hid (below_then HB1.out HB1.out.size hB2)
  have HO2 := Lib.hid (HO1.out.below hB2)
  have HR2 := Lib.hid hO2.rd
  clear hO2 hB2
  go_wp2_with fail
  refine (rcompare_calls R1 R2 k1 k2 _ _ xs' ys' _ HO2.out.rd HR2.out HDX.out HDY.out rfl rfl).mono ?_
  rintro e w3 ⟨rfl, hB3⟩
  have HB3 := Lib.hid (below_then HB2.out HB2.out.size hB3)
  have HO3 := Lib.hid (HO2.out.below hB3)
  clear hB3
  go_wp2_with fail
  go_ret3
  exact Out3.mk' rfl rfl (Own.nil _ _) HO3.out HB3.out
end Go.Proofs.Ytcmiciloiicfoaa
