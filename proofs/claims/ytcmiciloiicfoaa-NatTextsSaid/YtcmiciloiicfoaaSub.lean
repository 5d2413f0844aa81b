/- nat.Sub: the difference, 0 where the second number is greater. -/
import Derived.Test.YtcmiciloiicfoaaCmp
namespace Go.Proofs.Ytcmiciloiicfoaa
open Go.RowKit Go.Proofs.YtcmiciloiicfoaaW.PrintWords
/-- The state of nat.Sub's loop after i rounds. -/
structure SubInv (xs ys : List Int) (i : Nat) (s : List Int) (b : Int) : Prop where
  len : s.length = xs.length
  dg : Dg s
  b0 : 0 ≤ b
  b1 : b ≤ 1
  eq : val (s.take i) + val (ys.take i) = val (xs.take i) + pw i * b
theorem SubInv.init (xs ys : List Int) : SubInv xs ys 0 (List.replicate xs.length 0) 0 :=
  ⟨by simp, Dg.replicate _, by omega, by omega, by simp⟩
theorem SubInv.step {xs ys : List Int} {i : Nat} {s : List Int} {b t : Int} (h : SubInv xs ys i s b) (hx : Dg xs) (hy : Dg ys) (hi : i < xs.length) (ht : t = (gd xs i - b - gd ys i) % 18446744073709551616) :
    SubInv xs ys (i + 1) (s.set i (t % 4294967296)) (t / 9223372036854775808) := by
  have a := hx.gd i
  have a' := hy.gd i
  have := h.b0
  have := h.b1
  have hl := h.len
  have he := h.eq
  obtain ⟨r, hr⟩ : ∃ r, r = t % 4294967296 := ⟨_, rfl⟩
  obtain ⟨q, hq⟩ : ∃ q, q = t / 9223372036854775808 := ⟨_, rfl⟩
  rw [← hr, ← hq]
  have e : r + gd ys i + b = gd xs i + 4294967296 * q := by omega
  refine ⟨by rw [List.length_set]; exact hl, h.dg.set _ (by omega) (by omega), by omega, by omega, ?_⟩
  rw [val_take_succ, val_take_succ, val_take_succ, take_set_ge (Nat.le_refl i), gd_set (by omega), if_pos rfl, pw_succ]
  generalize gd ys i = g at *
  generalize gd xs i = f at *
  generalize pw i = p at *
  have : p * r + p * g + p * b = p * f + 4294967296 * p * q := by grind
  omega
theorem SubInv.final {xs ys : List Int} {s : List Int} {b : Int} (h : SubInv xs ys xs.length s b) (hle : ys.length ≤ xs.length) (hv : val ys ≤ val xs) : val s = val xs - val ys := by
  have := h.b0
  have := h.b1
  have hl := h.len
  have he := h.eq
  rw [val_take_ge (Nat.le_refl _), val_take_ge hle, val_take_ge (Nat.le_of_eq hl)] at he
  have a := val_lt h.dg
  rw [hl] at a
  rcases (by omega : b = 0 ∨ b = 1) with rfl | rfl
  · omega
  · omega
theorem len_le_of_val {xs ys : List Int} (hx : Dg xs) (hy : Dg ys) (nx : Nm xs) (ny : Nm ys) (h : val ys ≤ val xs) : ys.length ≤ xs.length := by
  rcases Nat.lt_or_ge xs.length ys.length with hlt | hge
  · have := val_lt_of_length hx hy ny hlt
    omega
  · exact hge

theorem u64_mod (n : Int) : IntKind.u64.wrap n = n % 18446744073709551616 := by
  rw [IntKind.wrap_u64]
theorem u64_sub2 (a b c : Int) : IntKind.u64.wrap (IntKind.u64.wrap (a - b) - c) = (a - b - c) % 18446744073709551616 := by
  rw [u64_mod, u64_mod]; omega
theorem Own.cutL {w : World} {base c : Nat} {A : Option Addr} {s : List Int} (h : Own w base A c s) (hA : A ≠ none) : Own w base A c (cutL s) := h.take _ (cutLen_le s) hA

set_option maxRecDepth 100000 in
set_option maxHeartbeats 400000 in
theorem sub_calls (A B : Option Addr) (c d n m : Nat) (xs ys : List Int) (w : World) (hx : Rd w A c xs) (hy : Rd w B d ys) (hn : n = xs.length) (hm : m = ys.length) (dx : Dg xs) (dy : Dg ys) (lx : xs.length ≤ 16777216) :
    Calls Try.prog 39 #[.slice A n c, .slice B m d] w (Out w (canon (val xs - val ys))) := by
  subst hn hm
  have HX := Lib.hid hx
  have HY := Lib.hid hy
  have h4 := hy.small
  have HDx := Lib.hid dx
  have HDy := Lib.hid dy
  by_cases hv : val xs ≤ val ys
  · have hc : decide (cmpI (val xs) (val ys) ≤ 0) = true := by
      rcases Int.lt_or_eq_of_le hv with h | h
      · rw [cmpI_lt h]; rfl
      · rw [h, cmpI_eq]; rfl
    have hr : canon (val xs - val ys) = [] := by
      unfold canon
      rw [show (val xs - val ys).toNat = 0 from by omega]; exact canonN_zero
    have HR := Lib.hid hr
    clear hx hy dx dy hr hv
    go_enter Try.func39, Try.ntmps39
    go_wp2_with fail
    refine (compare_calls A B c d _ _ xs ys _ HX.out HY.out HDx.out HDy.out rfl rfl).mono ?_
    rintro e w' ⟨rfl, ⟨nd, rfl⟩⟩
    go_wp2_with fail
    go_ret
    rw [HR.out]
    exact Out.mk' rfl (Own.nil _ _) (Drawn0.below ⟨nd, rfl⟩)
  · have hc : decide (cmpI (val xs) (val ys) ≤ 0) = false := by rw [cmpI_gt (by omega)]; rfl
    have h1 := cutL_length_le xs
    have h2 := cutL_length_le ys
    have h3 := len_le_of_val (cutL_dg dx) (cutL_dg dy) (cutL_nm xs) (cutL_nm ys) (by rw [cutL_val, cutL_val]; omega)
    have hmk := make_u32 (cutL xs).length (cutL xs).length rfl (by omega)
    have HXc := Lib.hid hx.cutL
    have HYc := Lib.hid hy.cutL
    have KX := Lib.hid fun W h => cut_l A c xs.length xs W h rfl
    have KY := Lib.hid fun W h => cut_l B d ys.length ys W h rfl
    have hcd := cutL_dg dx
    have hcd' := cutL_dg dy
    have hvl := cutL_val xs
    have hvl' := cutL_val ys
    rw [← hvl, ← hvl'] at hc hv ⊢
    have hlx : (cutL xs).length ≤ 16777216 := by omega
    generalize cutL xs = xs' at *
    generalize cutL ys = ys' at *
    have HV := Lib.hid hv
    have HVL := Lib.hid hvl
    have HVL' := Lib.hid hvl'
    have HDX := Lib.hid hcd
    have HDY := Lib.hid hcd'
    have HC := Lib.hid hc
    clear hx hy dx dy hv hvl hvl' hcd hcd' hc
    go_enter Try.func39, Try.ntmps39
    go_wp2_with fail
    refine (compare_calls A B c d _ _ xs ys _ HX.out HY.out HDx.out HDy.out rfl rfl).mono ?_
    rintro e w' ⟨rfl, ⟨nd, rfl⟩⟩
    rw [← HVL.out, ← HVL'.out]
    have hc := HC.out
    go_wp2_with fail
    refine (KX.out _ (HX.out.drewN _)).mono ?_
    rintro e w' ⟨rfl, rfl⟩
    go_wp2_with fail
    refine (KY.out _ (HY.out.drewN _)).mono ?_
    rintro e w' ⟨rfl, rfl⟩
    go_wp2_with fail
    go_loopw [8, 25] (fun v8 v25 wr => ∃ (i : Nat) (s : List Int) (b : Int), v8 = .int .u64 b ∧ v25 = .int .i64 i ∧ i ≤ xs'.length ∧ 0 ≤ b ∧ b ≤ 1 ∧ Hid (SubInv xs' ys' i s b) ∧ Hid (Own wr w.heap.size (some ⟨w.heap.size, 0, none⟩) xs'.length s) ∧ Hid (Below w.heap.size w wr)) (fun _ v _ => xs'.length - (intOf v).toNat)
    case atStart => exact ⟨0, _, 0, rfl, rfl, Nat.zero_le _, by omega, by omega, SubInv.init xs' ys', Own.made (w.drewN nd) _ _ (Nat.le_refl _) (by omega), (pw_below_drewN (Below.refl _ _) _).alloc (Nat.le_refl _) _⟩
    case round =>
      obtain ⟨i, s, b, rfl, rfl, hi, hc0, hc1, HI, HO, HB⟩ := hrel
      by_cases hlt : i < xs'.length
      · have ha := HDX.out.gd i
        have hb := HDY.out.gd i
        obtain ⟨adx, ex, hcx⟩ := (HXc.out.below HB.out).at_ i hlt
        cases ex
        have hO1 := HO.out.cell i (by have := HI.out.len; omega)
        have hO2 := HO.out.frozen i
        by_cases hly : i < ys'.length
        · obtain ⟨ady, ey, hcy⟩ := (HYc.out.below HB.out).at_ i hly
          cases ey
          go_wp2
          go_roundw
          case rel =>
            have hs := HI.out.step HDX.out HDY.out hlt (u64_sub2 _ _ _)
            have h0 := hs.b0
            have h1 := hs.b1
            exact ⟨i + 1, _, _, rfl, by go_num, by omega, h0, h1, hs, HO.out.set i _, HB.out.setCell (Nat.le_refl _) _⟩
          case measure => simp [intOf]; omega
        · have hz := gd_ge (xs := ys') (k := i) (by omega)
          have HZ := Lib.hid hz
          clear hz
          go_wp2
          go_roundw
          case rel =>
            have hs := HI.out.step (t := IntKind.u64.wrap (gd xs' i - b)) HDX.out HDY.out hlt (by rw [HZ.out, Int.sub_zero]; exact u64_mod _)
            have h0 := hs.b0
            have h1 := hs.b1
            exact ⟨i + 1, _, _, rfl, by go_num, by omega, h0, h1, hs, HO.out.set i _, HB.out.setCell (Nat.le_refl _) _⟩
          case measure => simp [intOf]; omega
      · obtain rfl : i = xs'.length := by omega
        have hfin := HI.out.final h3 (by have := HV.out; omega)
        have hcu := cutL_canon HI.out.dg
        rw [hfin] at hcu
        have HCU := Lib.hid hcu
        clear hfin hcu
        go_wp2_with fail
        refine (cut_l _ _ _ s _ HO.out.rd HI.out.len.symm).mono ?_
        rintro e w' ⟨rfl, rfl⟩
        go_wp2_with fail
        go_ret
        rw [← HCU.out]
        exact Out.mk' rfl (HO.out.cutL (by simp)) HB.out
end Go.Proofs.Ytcmiciloiicfoaa
