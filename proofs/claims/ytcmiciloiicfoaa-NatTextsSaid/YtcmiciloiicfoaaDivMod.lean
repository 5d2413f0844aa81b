/- nat.divide in one statement, nat.DivMod, nat.BitLen. -/
import Derived.Test.YtcmiciloiicfoaaDivLong
namespace Go.Proofs.Ytcmiciloiicfoaa
open Go.RowKit Go.Proofs.YtcmiciloiicfoaaW.PrintWords

theorem divide_calls (A B : Option Addr) (c d n m : Nat) (xs ys : List Int) (w : World) (hx : Rd w A c xs) (hy : Rd w B d ys) (hn : n = xs.length) (hm : m = ys.length) (dx : Dg xs) (dy : Dg ys) (nx : Nm xs) (ny : Nm ys) (h1 : 1 ≤ ys.length) (lx : xs.length ≤ 16777215) :
    Calls Try.prog 73 #[.slice A n c, .slice B m d] w (Out2 w (canon (val xs / val ys)) (canon (val xs % val ys))) := by
  rcases Int.lt_or_le (val xs) (val ys) with h | h
  · exact divide_less A B c d n m xs ys w hx hy hn hm dx dy nx h
  · by_cases h2 : ys.length = 1
    · exact divide_one A B c d n m xs ys w hx hy hn hm dx dy nx ny h h2 (by omega)
    · exact divide_long A B c d n m xs ys w hx hy hn hm dx dy nx ny h (by omega) lx

/-- Two fresh lists and an error's number. -/
def Out3 (w : World) (q r : List Int) (x : Int) (e : Ending) (w' : World) : Prop :=
  ∃ Q kq R kr, e = .returned (.tuple #[.slice Q q.length kq, .slice R r.length kr, .int .i64 x]) ∧ Own w' w.heap.size Q kq q ∧ Own w' w.heap.size R kr r ∧ Below w.heap.size w w'
theorem Out3.mk' {w w' : World} {q r : List Int} {x : Int} {Q R : Option Addr} {kq kr nq nr : Nat} (hq : nq = q.length) (hr : nr = r.length) (oq : Own w' w.heap.size Q kq q) (or : Own w' w.heap.size R kr r) (hb : Below w.heap.size w w') :
    Out3 w q r x (.returned (.tuple #[.slice Q nq kq, .slice R nr kr, .int .i64 x])) w' := ⟨Q, kq, R, kr, by rw [hq, hr], oq, or, hb⟩

theorem val_pos_of_length {xs : List Int} (h : Dg xs) (hn : Nm xs) (hl : 1 ≤ xs.length) : 0 < val xs := by
  have := nm_pos h hn (by omega)
  have := pw_pos (xs.length - 1)
  omega
theorem cutL_pos {xs : List Int} (h : Dg xs) (hp : 0 < val xs) : 1 ≤ (cutL xs).length := by
  rcases Nat.eq_zero_or_pos (cutL xs).length with h0 | h0
  · have := cutL_val xs
    rw [List.length_eq_zero_iff.1 h0] at this
    simp at this; omega
  · exact h0
theorem cutL_zero {xs : List Int} (h : Dg xs) (hp : val xs = 0) : (cutL xs).length = 0 := by
  rw [cutL_canon h, hp, canon_zero]; rfl

set_option maxRecDepth 100000 in
set_option maxHeartbeats 400000 in
theorem divmod_calls (A B : Option Addr) (c d n m : Nat) (xs ys : List Int) (w : World) (hx : Rd w A c xs) (hy : Rd w B d ys) (hn : n = xs.length) (hm : m = ys.length) (dx : Dg xs) (dy : Dg ys) (hp : 0 < val ys) (lx : xs.length ≤ 16777215) :
    Calls Try.prog 30 #[.slice A n c, .slice B m d] w (Out3 w (canon (val xs / val ys)) (canon (val xs % val ys)) 0) := by
  subst hn hm
  have hl := cutL_pos dy hp
  have hb : (((cutL ys).length : Int) == 0) = false := by simp; intro h; rw [h] at hl; simp at hl
  have KD := Lib.hid (fun W (hx : Rd W A c (cutL xs)) (hy : Rd W B d (cutL ys)) => divide_calls A B c d _ _ (cutL xs) (cutL ys) W hx hy rfl rfl (cutL_dg dx) (cutL_dg dy) (cutL_nm xs) (cutL_nm ys) hl (by have := cutL_length_le xs; omega))
  rw [cutL_val, cutL_val] at KD
  have KX := Lib.hid fun W h => cut_l A c xs.length xs W h rfl
  have KY := Lib.hid fun W h => cut_l B d ys.length ys W h rfl
  have HX := Lib.hid hx
  have HY := Lib.hid hy
  have HXc := Lib.hid hx.cutL
  have HYc := Lib.hid hy.cutL
  clear hx hy dx dy hl hp
  generalize cutL xs = xs' at *
  generalize cutL ys = ys' at *
  go_enter Try.func30, Try.ntmps30
  go_wp2_with fail
  refine (KY.out _ HY.out).mono ?_
  rintro e w' ⟨rfl, rfl⟩
  go_wp2_with fail
  refine (KX.out _ HX.out).mono ?_
  rintro e w' ⟨rfl, rfl⟩
  go_wp2_with fail
  refine (KD.out _ HXc.out HYc.out).mono ?_
  rintro e w' ⟨Q, kq, R, kr, rfl, hQ, hR, hB⟩
  go_wp2_with fail
  go_ret3
  exact Out3.mk' rfl rfl hQ hR hB
set_option maxRecDepth 100000 in
theorem divmod_zero (A B : Option Addr) (c d n m : Nat) (ys : List Int) (w : World) (hy : Rd w B d ys) (hm : m = ys.length) (dy : Dg ys) (hp : val ys = 0) :
    Calls Try.prog 30 #[.slice A n c, .slice B m d] w fun e w' => e = .returned (.tuple #[.slice none 0 0, .slice none 0 0, .int .i64 3]) ∧ w = w' := by
  subst hm
  have hl := cutL_zero dy hp
  have hb : (((cutL ys).length : Int) == 0) = true := by rw [hl]; rfl
  have KY := Lib.hid fun W h => cut_l B d ys.length ys W h rfl
  have HY := Lib.hid hy
  clear hy dy hl hp
  generalize cutL ys = ys' at *
  go_enter Try.func30, Try.ntmps30
  go_wp2_with fail
  refine (KY.out _ HY.out).mono ?_
  rintro e w' ⟨rfl, rfl⟩
  go_wp2_with fail
  go_ret3
  exact ⟨rfl, rfl⟩

/-- How many bits a list's value has. -/
def blen (xs : List Int) : Int := if (cutL xs).length = 0 then 0 else ((cutL xs).length - 1 : Int) * 32 + bl (gd (cutL xs) ((cutL xs).length - 1))
theorem pw_two (k : Nat) : pw k = (2 : Int) ^ (32 * k) := by
  unfold pw; rw [Int.pow_mul]; rfl
theorem blen_spec {xs : List Int} (dx : Dg xs) : 0 ≤ blen xs ∧ blen xs ≤ 32 * xs.length ∧ val xs < (2 : Int) ^ (blen xs).toNat := by
  have hle := cutL_length_le xs
  unfold blen
  by_cases h : (cutL xs).length = 0
  · rw [if_pos h]
    have hv := cutL_val xs
    rw [List.length_eq_zero_iff.1 h] at hv
    simp at hv
    rw [← hv]; simp
    omega
  · rw [if_neg h]
    obtain ⟨n, hn⟩ : ∃ n, (cutL xs).length = n + 1 := ⟨(cutL xs).length - 1, by omega⟩
    have hd := cutL_dg dx
    have hg := hd.gd n
    have hnz := cutL_nm xs (by omega)
    rw [hn] at hnz hle ⊢
    simp only [Nat.add_sub_cancel] at hnz ⊢
    have b0 := bl_le (x := gd (cutL xs) n) (by omega) (by omega)
    have bh := bl_high (x := gd (cutL xs) n) (by omega) (by omega)
    have e : (((n + 1 : Nat) : Int) - 1) * 32 + (bl (gd (cutL xs) n) : Int) = ((32 * n + bl (gd (cutL xs) n) : Nat) : Int) := by omega
    rw [e]
    refine ⟨by omega, by omega, ?_⟩
    rw [Int.toNat_natCast, Int.pow_add, ← pw_two, ← cutL_val xs, top1 hn]
    have h1 := val_lt (hd.take n)
    rw [List.length_take, Nat.min_eq_left (by omega)] at h1
    have h2 : pw n * (gd (cutL xs) n + 1) ≤ pw n * (2 : Int) ^ bl (gd (cutL xs) n) := Int.mul_le_mul_of_nonneg_left (by omega) (Int.le_of_lt (pw_pos n))
    rw [Int.mul_add, Int.mul_one] at h2
    omega

set_option maxRecDepth 100000 in
set_option maxHeartbeats 400000 in
theorem bitlen_calls (A : Option Addr) (c n : Nat) (xs : List Int) (w : World) (hx : Rd w A c xs) (hn : n = xs.length) (dx : Dg xs) (lx : xs.length ≤ 16777216) :
    Calls Try.prog 78 #[.slice A n c] w fun e w' => e = .returned (.int .i64 (blen xs)) ∧ w = w' := by
  subst hn
  have hle := cutL_length_le xs
  have hbl : blen xs = if (cutL xs).length = 0 then 0 else ((cutL xs).length - 1 : Int) * 32 + bl (gd (cutL xs) ((cutL xs).length - 1)) := rfl
  have KX := Lib.hid fun W h => cut_l A c xs.length xs W h rfl
  have HX := Lib.hid hx
  have HXc := Lib.hid hx.cutL
  have hd := cutL_dg dx
  clear hx
  generalize cutL xs = xs' at *
  by_cases h : xs'.length = 0
  · have hb : ((xs'.length : Int) == 0) = true := by rw [h]; rfl
    rw [if_pos h] at hbl
    have HBL := Lib.hid hbl
    clear hbl h
    go_enter Try.func78, Try.ntmps78
    go_wp2_with fail
    refine (KX.out _ HX.out).mono ?_
    rintro e w' ⟨rfl, rfl⟩
    go_wp2_with fail
    go_ret
    exact ⟨ret_int HBL.out.symm, rfl⟩
  · have hb : ((xs'.length : Int) == 0) = false := by simp; intro he; exact h (by rw [he]; rfl)
    rw [if_neg h] at hbl
    obtain ⟨a, ha⟩ : ∃ a, xs'.length - 1 = a := ⟨_, rfl⟩
    rw [ha] at hbl
    have i1 : (xs'.length : Int) - 1 = (a : Int) := by omega
    have la : a < xs'.length := by omega
    have hg := hd.gd a
    obtain ⟨ad, rfl, hcx⟩ := HXc.out.at_ a la
    have b0 := bl_le (x := gd xs' a) (by omega) (by omega)
    have KL := Lib.hid fun W => len32_calls (gd xs' a) W hg.1 (by omega)
    change Hid (∀ W, Calls Try.prog 104 #[.int .u32 (gd xs' a)] W fun e w' => e = .returned (.int .i64 (bl (gd xs' a))) ∧ w' = W) at KL
    rw [i1] at hbl
    have HBL := Lib.hid hbl
    clear hbl h ha
    go_enter Try.func78, Try.ntmps78
    go_wp2_with fail
    refine (KX.out _ HX.out).mono ?_
    rintro e w' ⟨rfl, rfl⟩
    go_wp2_with fail
    refine (KL.out _).mono ?_
    rintro e w' ⟨rfl, rfl⟩
    go_wp2_with fail
    go_ret
    exact ⟨ret_int HBL.out.symm, rfl⟩
end Go.Proofs.Ytcmiciloiicfoaa
