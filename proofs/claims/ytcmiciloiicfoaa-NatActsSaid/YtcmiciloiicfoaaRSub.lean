/- dspcompilerref01.Sub: the difference, nothing where the second number is greater. -/
import Derived.Test.YtcmiciloiicfoaaRCmp
namespace Go.Proofs.Ytcmiciloiicfoaa
open Go.RowKit Go.Proofs.YtcmiciloiicfoaaW.PrintWords

structure RSubInv (xs ys : List Int) (i : Nat) (s : List Int) (b : Int) : Prop where
  len : s.length = xs.length
  dg : Dg s
  b0 : 0 ≤ b
  b1 : b ≤ 1
  eq : val (s.take i) + val (ys.take i) = val (xs.take i) + pw i * b
  hi : ∀ j, i ≤ j → gd s j = gd xs j
theorem RSubInv.init {xs : List Int} (ys : List Int) (h : Dg xs) : RSubInv xs ys 0 xs 0 :=
  ⟨rfl, h, by omega, by omega, by simp, fun _ _ => rfl⟩
theorem RSubInv.step {xs ys : List Int} {i : Nat} {s : List Int} {b r q : Int} (h : RSubInv xs ys i s b) (hi : i < xs.length) (r0 : 0 ≤ r) (r1 : r < 4294967296) (q0 : 0 ≤ q) (q1 : q ≤ 1) (e : r + gd ys i + b = gd xs i + 4294967296 * q) :
    RSubInv xs ys (i + 1) (s.set i r) q := by
  have hl := h.len
  have he := h.eq
  refine ⟨by rw [List.length_set]; exact hl, h.dg.set _ r0 r1, q0, q1, ?_, fun j hj => by rw [gd_set_ne (by omega)]; exact h.hi j (by omega)⟩
  rw [val_take_succ, val_take_succ, val_take_succ, take_set_ge (Nat.le_refl i), gd_set (by omega), if_pos rfl, pw_succ]
  generalize gd ys i = g at *
  generalize gd xs i = f at *
  generalize pw i = p at *
  have : p * r + p * g + p * b = p * f + 4294967296 * p * q := by grind
  omega
theorem RSubInv.final {xs ys : List Int} {s : List Int} {b : Int} (h : RSubInv xs ys xs.length s b) (hle : ys.length ≤ xs.length) (hv : val ys ≤ val xs) : val s = val xs - val ys := by
  have := h.b0
  have := h.b1
  have hl := h.len
  have he := h.eq
  rw [val_take_ge (Nat.le_refl _), val_take_ge hle, val_take_ge (Nat.le_of_eq hl)] at he
  have a := val_lt h.dg
  rw [hl] at a
  rcases (by omega : b = 0 ∨ b = 1) with rfl | rfl
  · omega
  · omega

set_option maxRecDepth 100000 in
set_option maxHeartbeats 1000000 in
theorem rsub_calls (A B : Option Addr) (c d n m : Nat) (xs ys : List Int) (w : World) (hx : Rd w A c xs) (hy : Rd w B d ys) (hn : n = xs.length) (hm : m = ys.length) (dx : Dg xs) (dy : Dg ys) (lx : xs.length ≤ 16777216) :
    Calls Try.prog 49 #[.slice A n c, .slice B m d] w (Out w (canon (val xs - val ys))) := by
  subst hn hm
  have HX := Lib.hid hx
  have HY := Lib.hid hy
  have HDx := Lib.hid dx
  have HDy := Lib.hid dy
  by_cases hv : val xs < val ys
  · have hc : decide (cmpI (val xs) (val ys) < 0) = true := by rw [cmpI_lt hv]; rfl
    have hr : canon (val xs - val ys) = [] := by
      unfold canon
      rw [show (val xs - val ys).toNat = 0 from by omega]; exact canonN_zero
    have HR := Lib.hid hr
    clear hx hy dx dy hr hv
    go_enter Try.func49, Try.ntmps49
    go_wp2_with fail
    refine (rcompare_calls A B c d _ _ xs ys _ HX.out HY.out HDx.out HDy.out rfl rfl).mono ?_
    rintro e w1 ⟨rfl, hB⟩
    go_wp2_with fail
    go_ret
    rw [HR.out]
    exact Out.mk' rfl (Own.nil _ _) hB
  · have hc : decide (cmpI (val xs) (val ys) < 0) = false := by
      rcases Int.lt_or_eq_of_le (Int.not_lt.1 hv) with h | h
      · rw [cmpI_gt h]; rfl
      · rw [h, cmpI_eq]; rfl
    have h1 := cutL_length_le xs
    have h3 := len_le_of_val (cutL_dg dx) (cutL_dg dy) (cutL_nm xs) (cutL_nm ys) (by rw [cutL_val, cutL_val]; omega)
    have KC := Lib.hid fun W h h' => rcompare_calls A B c d _ _ xs ys W h h' dx dy rfl rfl
    have KX := Lib.hid fun W h => rtrim_calls A c xs.length xs W h rfl
    have KY := Lib.hid fun W h => rtrim_calls B d ys.length ys W h rfl
    have hcd := cutL_dg dx
    have hcd' := cutL_dg dy
    have hvl := cutL_val xs
    have hvl' := cutL_val ys
    have hlx : (cutL xs).length ≤ 16777216 := by omega
    rw [← hvl, ← hvl'] at hv ⊢
    have HC := Lib.hid hc
    clear hc
    generalize hxe : cutL xs = xs' at *
    generalize hye : cutL ys = ys' at *
    have HV := Lib.hid hv
    have HDX := Lib.hid hcd
    have HDY := Lib.hid hcd'
    clear hx hy dx dy hv hvl hvl' hcd hcd' hxe hye
    go_enter Try.func49, Try.ntmps49
    go_wp2_with fail
    refine (KC.out _ HX.out HY.out).mono ?_
    rintro e w1 ⟨rfl, hB1⟩
    have HB1 := Lib.hid hB1
    clear hB1
    have hc := HC.out
    go_wp2_with fail
    refine (KY.out _ (HY.out.below HB1.out)).mono ?_
    rintro e w2 ⟨R1, k1, rfl, hO2, hB2⟩
    have HR1 := Lib.hid hO2.rd
    have HB2 := Lib.hid (below_then HB1.out HB1.out.size hB2)
    clear hO2 hB2
    go_wp2_with fail
    refine (KX.out _ (HX.out.below HB2.out)).mono ?_
    rintro e w3 ⟨R, k, rfl, hO3, hB3⟩
    have HO3 := Lib.hid hO3
    have HB3 := Lib.hid hB3
    clear hO3 hB3 hc HC
    go_wp2_with fail
    go_loopw [6, 7] (fun v6 v7 wr => ∃ (i : Nat) (s : List Int) (b : Int), v6 = .int .u64 b ∧ v7 = .int .i64 i ∧ i ≤ xs'.length ∧ 0 ≤ b ∧ b ≤ 1 ∧ Hid (RSubInv xs' ys' i s b) ∧ Hid (Own wr w2.heap.size R k s) ∧ Hid (Below w2.heap.size w2 wr)) (fun _ v _ => xs'.length - (intOf v).toNat)
    case atStart => exact ⟨0, xs', 0, rfl, rfl, Nat.zero_le _, by omega, by omega, RSubInv.init ys' HDX.out, HO3.out, HB3.out⟩
    case round =>
      obtain ⟨i, s, b, rfl, rfl, hi, hc0, hc1, HI, HO, HB⟩ := hrel
      by_cases hlt : i < xs'.length
      · have ha := HDX.out.gd i
        have hb := HDY.out.gd i
        have hsl := HI.out.len
        obtain ⟨g, rfl, hg1, hg2⟩ := HO.out.form (by omega)
        have hO1 := HO.out.cell i (by omega)
        have hO2 := HO.out.frozen i
        rw [HI.out.hi i (Nat.le_refl _)] at hO1
        clear hsl
        by_cases hly : i < ys'.length
        · obtain ⟨ady, ey, hcy⟩ := (HR1.out.below HB.out).at_ i hly
          cases ey
          by_cases hbo : gd xs' i < b + gd ys' i
          · go_wp2
            go_roundw
            case rel =>
              refine ⟨i + 1, s.set i _, 1, rfl, by go_num, by omega, by omega, by omega, ?_, HO.out.set i _, HB.out.setCell hg1 _⟩
              exact HI.out.step hlt (by omega) (by omega) (by omega) (by omega) (by omega)
            case measure => simp [intOf]; omega
          · go_wp2
            go_roundw
            case rel =>
              refine ⟨i + 1, s.set i _, 0, rfl, by go_num, by omega, by omega, by omega, ?_, HO.out.set i _, HB.out.setCell hg1 _⟩
              exact HI.out.step hlt (by omega) (by omega) (by omega) (by omega) (by omega)
            case measure => simp [intOf]; omega
        · have hz := gd_ge (xs := ys') (k := i) (by omega)
          by_cases hbo : gd xs' i < b
          · go_wp2
            go_roundw
            case rel =>
              refine ⟨i + 1, s.set i _, 1, rfl, by go_num, by omega, by omega, by omega, ?_, HO.out.set i _, HB.out.setCell hg1 _⟩
              exact HI.out.step hlt (by omega) (by omega) (by omega) (by omega) (by omega)
            case measure => simp [intOf]; omega
          · go_wp2
            go_roundw
            case rel =>
              refine ⟨i + 1, s.set i _, 0, rfl, by go_num, by omega, by omega, by omega, ?_, HO.out.set i _, HB.out.setCell hg1 _⟩
              exact HI.out.step hlt (by omega) (by omega) (by omega) (by omega) (by omega)
            case measure => simp [intOf]; omega
      · obtain rfl : i = xs'.length := by omega
        have hfin := HI.out.final h3 (by have := HV.out; omega)
        have hcu := cutL_canon HI.out.dg
        rw [hfin] at hcu
        have HCU := Lib.hid hcu
        have hsl := HI.out.len
        rw [← hsl]
        have HBw := Lib.hid (below_then HB2.out HB2.out.size HB.out)
        clear hfin hcu
        go_wp2_with fail
        refine (rtrim_calls _ _ _ s _ HO.out.rd (by omega)).mono ?_
        rintro e w4 ⟨R4, k4, rfl, hO4, hB4⟩
        go_wp2_with fail
        go_ret
        rw [← HCU.out]
        exact Out.mk' rfl (hO4.mono HBw.out.size) (below_then HBw.out HBw.out.size hB4)
end Go.Proofs.Ytcmiciloiicfoaa
