/- nat.divide: the quotient and the remainder of normal lists. -/
import Derived.Test.YtcmiciloiicfoaaDigit
import Derived.Test.YtcmiciloiicfoaaLong
namespace Go.Proofs.Ytcmiciloiicfoaa
open Go.RowKit Go.Proofs.YtcmiciloiicfoaaW.PrintWords

/-- What a call leaves that returns two fresh lists. -/
def Out2 (w : World) (q r : List Int) (e : Ending) (w' : World) : Prop :=
  ∃ Q kq R kr, e = .returned (.tuple #[.slice Q q.length kq, .slice R r.length kr]) ∧ Own w' w.heap.size Q kq q ∧ Own w' w.heap.size R kr r ∧ Below w.heap.size w w'
theorem Out2.mk' {w w' : World} {q r : List Int} {Q R : Option Addr} {kq kr nq nr : Nat} (hq : nq = q.length) (hr : nr = r.length) (oq : Own w' w.heap.size Q kq q) (or : Own w' w.heap.size R kr r) (hb : Below w.heap.size w w') :
    Out2 w q r (.returned (.tuple #[.slice Q nq kq, .slice R nr kr])) w' := ⟨Q, kq, R, kr, by rw [hq, hr], oq, or, hb⟩
theorem Own.lit1 (W : World) (base : Nat) (hb : base ≤ W.heap.size) (x : Int) : Own (W.alloc (.cells #[.int .u32 x] 53)) base (some ⟨W.heap.size, 0, none⟩) 1 [x] := by
  have h := World.ownsRow_lit (base := base) (e := 53) (size := 1) W #[.int .u32 x] 1 hb (by unfold maxLen; omega) (by simp)
  exact ⟨by simpa [nums] using h, by simp⟩
theorem val_one (x : Int) : val [x] = x := by simp
theorem canon_small {x : Int} (h0 : 0 ≤ x) (h1 : x < 4294967296) : cutL [x] = canon x := by
  have := cutL_canon (xs := [x]) (Dg.cons h0 h1 Dg.nil)
  rwa [val_one] at this

theorem addr_zero (a : Addr) : a.add 0 = a := by simp [Addr.add]

set_option maxRecDepth 100000 in
set_option maxHeartbeats 400000 in
theorem divide_less (A B : Option Addr) (c d n m : Nat) (xs ys : List Int) (w : World) (hx : Rd w A c xs) (hy : Rd w B d ys) (hn : n = xs.length) (hm : m = ys.length) (dx : Dg xs) (dy : Dg ys) (nx : Nm xs) (h : val xs < val ys) :
    Calls Try.prog 73 #[.slice A n c, .slice B m d] w (Out2 w (canon (val xs / val ys)) (canon (val xs % val ys))) := by
  subst hn hm
  have h0 := val_nonneg dx
  have hq : canon (val xs / val ys) = [] := by rw [Int.ediv_eq_zero_of_lt h0 h]; exact canon_zero
  have hr : canon (val xs % val ys) = xs := by rw [Int.emod_eq_of_lt h0 h]; exact (canon_of dx nx).symm
  rw [hq, hr]
  have hc : decide (cmpI (val xs) (val ys) < 0) = true := by rw [cmpI_lt h]; rfl
  have HX := Lib.hid hx
  have HY := Lib.hid hy
  have HDX := Lib.hid dx
  have HDY := Lib.hid dy
  clear hx hy dx dy hq hr nx h h0
  go_enter Try.func73, Try.ntmps73
  go_wp2_with fail
  refine (compare_calls A B c d _ _ xs ys _ HX.out HY.out HDX.out HDY.out rfl rfl).mono ?_
  rintro e w' ⟨rfl, ⟨nd, rfl⟩⟩
  go_wp2_with fail
  refine (clone_calls A c _ xs _ (HX.out.drewN _) rfl).mono ?_
  rintro e w' ⟨R, k, rfl, hO, hB⟩
  go_wp2_with fail
  go_ret2
  exact Out2.mk' rfl rfl (Own.nil _ _) hO ⟨hB.os, hB.tape, hB.output, hB.size, hB.block⟩

set_option maxRecDepth 100000 in
set_option maxHeartbeats 400000 in
theorem divide_one (A B : Option Addr) (c d n m : Nat) (xs ys : List Int) (w : World) (hx : Rd w A c xs) (hy : Rd w B d ys) (hn : n = xs.length) (hm : m = ys.length) (dx : Dg xs) (dy : Dg ys) (nx : Nm xs) (ny : Nm ys) (h : val ys ≤ val xs) (h1 : ys.length = 1) (lx : xs.length ≤ 16777216) :
    Calls Try.prog 73 #[.slice A n c, .slice B m d] w (Out2 w (canon (val xs / val ys)) (canon (val xs % val ys))) := by
  subst hn hm
  obtain ⟨y, rfl⟩ := List.length_eq_one_iff.1 h1
  have hlx := len_le_of_val dx dy nx ny h
  have hy0 := dy.head
  have hyn : y ≠ 0 := by have := ny (by simp); simpa using this
  have hc : decide (cmpI (val xs) (val [y]) < 0) = false := by
    rcases Int.lt_or_eq_of_le h with h | h
    · rw [cmpI_gt h]; rfl
    · rw [h, cmpI_eq]; rfl
  rw [val_one] at *
  have HX := Lib.hid hx
  have HY := Lib.hid hy
  have HDX := Lib.hid dx
  have HDY := Lib.hid dy
  have hmk := make_u32 xs.length (xs.length : Int) rfl (by omega)
  have hmk' := make_u32 xs.length ((xs.length : Int) - 1 + 1) (by omega) (by omega)
  have hyp : 0 < y := by omega
  have hl1 : 1 ≤ xs.length := by simpa using hlx
  clear hx hy dx dy nx ny h h1 hlx hyn
  go_enter Try.func73, Try.ntmps73
  go_wp2_with fail
  refine (compare_calls A B c d _ _ xs [y] _ HX.out HY.out HDX.out HDY.out rfl rfl).mono ?_
  rintro e w' ⟨rfl, ⟨nd, rfl⟩⟩
  rw [val_one]
  go_wp2_with fail
  go_loopw [8, 9] (fun v8 v9 wr => ∃ (k : Nat) (j : Int) (s : List Int) (rest : Int), v8 = .int .u64 rest ∧ v9 = .int .i64 j ∧ j + 1 = k ∧ k ≤ xs.length ∧ 0 ≤ rest ∧ rest < y ∧ Hid (OneInv xs y k s rest) ∧ Hid (Own wr w.heap.size (some ⟨w.heap.size, 0, none⟩) xs.length s) ∧ Hid (Below w.heap.size w wr)) (fun _ v _ => (intOf v + 1).toNat)
  case atStart => exact ⟨xs.length, _, _, 0, rfl, rfl, by omega, Nat.le_refl _, by omega, hyp, OneInv.init hyp, Own.made (w.drewN nd) _ _ (Nat.le_refl _) (by omega), (pw_below_drewN (Below.refl _ _) _).alloc (Nat.le_refl _) _⟩
  case round =>
    obtain ⟨k, j, s, rest, rfl, rfl, hj, hk, hr0, hr1, HI, HO, HB⟩ := hrel
    cases k with
    | zero =>
      obtain rfl : j = -1 := by omega
      obtain ⟨hfq, hfr⟩ := HI.out.final HDX.out
      have hcq := cutL_canon HI.out.dg
      have hcr := canon_small hr0 (show rest < 4294967296 by omega)
      rw [hfq] at hcq
      rw [hfr] at hcr
      have HCQ := Lib.hid hcq
      have HCR := Lib.hid hcr
      have HFR := Lib.hid hfr
      clear hfq hfr hcq hcr
      go_wp2_with fail
      refine (cut_l _ _ _ s _ HO.out.rd HI.out.len.symm).mono ?_
      rintro e w' ⟨rfl, rfl⟩
      go_wp2_with fail
      refine (cut_l _ _ _ [rest] _ (Own.lit1 wr wr.heap.size (Nat.le_refl _) rest).rd rfl).mono ?_
      rintro e w' ⟨rfl, rfl⟩
      go_wp2_with fail
      go_ret2
      have hol := (Own.lit1 wr w.heap.size HB.out.size rest).cutL (by simp)
      have e : cutL [rest] = canon (val xs % y) := by rw [HFR.out]; exact HCR.out
      rw [e] at hol ⊢
      rw [← HCQ.out]
      exact Out2.mk' rfl rfl ((HO.out.cutL (by simp)).alloc _) hol (HB.out.alloc HB.out.size _)
    | succ k =>
      obtain rfl : j = (k : Int) := by omega
      clear hj
      have ha := HDX.out.gd k
      obtain ⟨adx, ex, hcx, hcx2⟩ := HX.out.at2 HB.out ⟨w.heap.size, k, none⟩ (Nat.le_refl _) k (by omega)
      cases ex
      obtain ⟨ady, ey, hcy, hcy2⟩ := HY.out.at2 HB.out ⟨w.heap.size, k, none⟩ (Nat.le_refl _) 0 (by simp)
      cases ey
      rw [addr_zero, gd_zero] at hcy hcy2
      have hO1 := HO.out.cell k (by have := HI.out.len; omega)
      have hO2 := HO.out.frozen k
      have hor := or_join64 (a := rest * 4294967296) (b := gd xs k) (k := 32) (by omega) (by omega) (by omega) (by omega) (by omega) (Int.mul_emod_left _ _)
      obtain ⟨hs, q0, q1⟩ := HI.out.step HDX.out (by omega) hy0.2
      have HS := Lib.hid hs
      clear hs
      have m0 := Int.emod_nonneg (rest * 4294967296 + gd xs k) (show y ≠ 0 by omega)
      have m1 := Int.emod_lt_of_pos (rest * 4294967296 + gd xs k) hyp
      go_wp2
      go_roundw
      case rel => exact ⟨k, _, _, _, rfl, rfl, by omega, by omega, m0, m1, HS, HO.out.set k _, HB.out.setCell (Nat.le_refl _) _⟩
      case measure => simp [intOf]
end Go.Proofs.Ytcmiciloiicfoaa
