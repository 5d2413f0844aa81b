/- nat.Add. -/
import Derived.Test.YtcmiciloiicfoaaCut
namespace Go.Proofs.Ytcmiciloiicfoaa
open Go.RowKit Go.Proofs.YtcmiciloiicfoaaW.PrintWords

/-- What stands in two slots: two readable lists, the second not longer, of this sum. -/
structure Two (w : World) (X Y : Value) (xs ys : List Int) : Prop where
  two : ∃ A c B d, X = .slice A xs.length c ∧ Y = .slice B ys.length d ∧ Rd w A c xs ∧ Rd w B d ys ∧ ys.length ≤ xs.length ∧ xs.length ≤ 16777216

set_option maxRecDepth 100000 in
set_option maxHeartbeats 400000 in
theorem add_calls (A B : Option Addr) (c d n m : Nat) (xs ys : List Int) (w : World) (hx : Rd w A c xs) (hy : Rd w B d ys) (hn : n = xs.length) (hm : m = ys.length) (dx : Dg xs) (dy : Dg ys) (lx : xs.length ≤ 16777216) (ly : ys.length ≤ 16777216) :
    Calls Try.prog 35 #[.slice A n c, .slice B m d] w (Out w (canon (val xs + val ys))) := by
  subst hn hm
  have hcx : (cutL xs).length = cutLen xs := cutL_length xs
  have hcy : (cutL ys).length = cutLen ys := cutL_length ys
  have HX := Lib.hid hx
  have HY := Lib.hid hy
  have h1 := cutLen_le xs
  have h2 := cutLen_le ys
  have h3 := hx.small
  have h4 := hy.small
  have HXc := Lib.hid (hx.take (cutLen xs) h1)
  have HYc := Lib.hid (hy.take (cutLen ys) h2)
  have HCX := Lib.hid hcx
  have HCY := Lib.hid hcy
  have HDx := Lib.hid dx
  have HDy := Lib.hid dy
  clear hx hy hcx hcy dx dy
  go_enter Try.func35, Try.ntmps35
  go_wp2_with fail
  refine (cut_calls A c _ xs _ HX.out rfl).mono ?_
  rintro e w' ⟨rfl, rfl⟩
  go_wp2_with fail
  refine (cut_calls B d _ ys _ HY.out rfl).mono ?_
  rintro e w' ⟨rfl, rfl⟩
  go_upto_if 20 with (fail)
  go_cut [5, 6] (fun v5 v6 wc => ∃ xs' ys', Hid (Two w v5 v6 xs' ys') ∧ Hid (Dg xs') ∧ Hid (Dg ys') ∧ Hid (val xs' + val ys' = val xs + val ys) ∧ wc = w)
  case first =>
    by_cases hlt : cutLen xs < cutLen ys
    · have hb : decide (cutLen xs < cutLen ys) = true := by simp [hlt]
      go_wp2
      go_meet
      case rel => exact ⟨cutL ys, cutL xs, ⟨B, d, A, c, by rw [HCY.out], by rw [HCX.out], HYc.out, HXc.out, by rw [HCX.out, HCY.out]; omega, by first | (rw [HCX.out]; omega) | (rw [HCY.out]; omega)⟩, cutL_dg HDy.out, cutL_dg HDx.out, by show _ = _; rw [cutL_val, cutL_val]; omega, rfl⟩
    · have hb : decide (cutLen xs < cutLen ys) = false := by simp; omega
      go_wp2
      go_meet
      case rel => exact ⟨cutL xs, cutL ys, ⟨A, c, B, d, by rw [HCX.out], by rw [HCY.out], HXc.out, HYc.out, by rw [HCX.out, HCY.out]; omega, by first | (rw [HCX.out]; omega) | (rw [HCY.out]; omega)⟩, cutL_dg HDx.out, cutL_dg HDy.out, by show _ = _; rw [cutL_val, cutL_val], rfl⟩
  case rest =>
    obtain ⟨xs', ys', HT, HDX, HDY, HV, rfl⟩ := hcut
    obtain ⟨X, c', Y, d', rfl, rfl, hx', hy', hle, hl'⟩ := HT.out.two
    have h5 := hx'.small
    have hmk := make_u32 (xs'.length + 1) ((xs'.length : Int) + 1) (by omega) (by omega)
    have HX' := Lib.hid hx'
    have HY' := Lib.hid hy'
    clear hx' hy'
    go_wp2_with fail
    go_loopw [8, 29] (fun v8 v29 wr => ∃ (i : Nat) (s : List Int) (cr : Int), v8 = .int .u64 cr ∧ v29 = .int .i64 i ∧ i ≤ xs'.length ∧ 0 ≤ cr ∧ cr ≤ 1 ∧ Hid (AddInv xs' ys' i s cr) ∧ Hid (Own wr wc.heap.size (some ⟨wc.heap.size, 0, none⟩) (xs'.length + 1) s) ∧ Hid (Below wc.heap.size wc wr)) (fun _ v _ => xs'.length - (intOf v).toNat)
    case atStart => exact ⟨0, _, 0, rfl, rfl, Nat.zero_le _, by omega, by omega, AddInv.init xs' ys', Own.made _ _ _ (Nat.le_refl _) (by omega), (Below.refl _ _).alloc (Nat.le_refl _) _⟩
    case round =>
      obtain ⟨i, s, cr, rfl, rfl, hi, hc0, hc1, HI, HO, HB⟩ := hrel
      by_cases hlt : i < xs'.length
      · have ha := HDX.out.gd i
        have hb := HDY.out.gd i
        obtain ⟨adx, ex, hcx⟩ := (HX'.out.below HB.out).at_ i hlt
        cases ex
        have hO1 := HO.out.cell i (by have := HI.out.len; omega)
        have hO2 := HO.out.frozen i
        by_cases hly : i < ys'.length
        · obtain ⟨ady, ey, hcy⟩ := (HY'.out.below HB.out).at_ i hly
          cases ey
          go_wp2
          go_roundw
          case rel => exact ⟨i + 1, _, _, rfl, by go_num, by omega, by omega, by omega, HI.out.step HDX.out HDY.out hlt, HO.out.set i _, HB.out.setCell (Nat.le_refl _) _⟩
          case measure => simp [intOf]; omega
        · have hz := gd_ge (xs := ys') (k := i) (by omega)
          have HZ := Lib.hid hz
          clear hz
          go_wp2
          go_roundw
          case rel =>
            have hs := HI.out.step HDX.out HDY.out hlt
            rw [HZ.out, Int.add_zero] at hs
            exact ⟨i + 1, _, _, rfl, by go_num, by omega, by omega, by omega, hs, HO.out.set i _, HB.out.setCell (Nat.le_refl _) _⟩
          case measure => simp [intOf]; omega
      · obtain rfl : i = xs'.length := by omega
        have hl := HI.out.len
        have hO1 := HO.out.cell xs'.length (by omega)
        have hO2 := HO.out.frozen xs'.length
        have hO3 := HO.out.set xs'.length cr
        obtain ⟨hf1, hf2⟩ := HI.out.final hle
        have hcr : cr % 4294967296 = cr := by omega
        rw [hcr] at hf1 hf2
        have hcu := cutL_canon hf1
        rw [hf2, HV.out] at hcu
        have HO3 := Lib.hid hO3
        have HCU := Lib.hid hcu
        have HL := Lib.hid hl
        clear hO3 hl hf1 hf2 hcr hcu
        go_wp2_with fail
        refine (cut_calls _ _ _ (s.set xs'.length cr) _ HO3.out.rd (by rw [List.length_set]; exact HL.out.symm)).mono ?_
        rintro e w' ⟨rfl, rfl⟩
        go_wp2_with fail
        go_ret
        rw [← HCU.out]
        exact Out.mk' (cutL_length _).symm (HO3.out.take _ (cutLen_le _) (by simp)) (HB.out.setCell (Nat.le_refl _) _)
end Go.Proofs.Ytcmiciloiicfoaa
