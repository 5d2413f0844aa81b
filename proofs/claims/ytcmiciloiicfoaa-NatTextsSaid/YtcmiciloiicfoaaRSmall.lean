/- The reference's small (division by one digit), BitLen of one digit, Shift by less than a digit. -/
import Derived.Test.YtcmiciloiicfoaaRAdd
namespace Go.Proofs.Ytcmiciloiicfoaa
open Go.RowKit Go.Proofs.YtcmiciloiicfoaaW.PrintWords

/-- A fresh list and a digit. -/
def OutD (w : World) (q : List Int) (x : Int) (e : Ending) (w' : World) : Prop :=
  ∃ Q k, e = .returned (.tuple #[.slice Q q.length k, .int .u32 x]) ∧ Own w' w.heap.size Q k q ∧ Below w.heap.size w w'
theorem OutD.mk' {w w' : World} {q : List Int} {x : Int} {Q : Option Addr} {k n : Nat} (hn : n = q.length) (ho : Own w' w.heap.size Q k q) (hb : Below w.heap.size w w') : OutD w q x (.returned (.tuple #[.slice Q n k, .int .u32 x])) w' :=
  ⟨Q, k, by rw [hn], ho, hb⟩

set_option maxRecDepth 100000 in
set_option maxHeartbeats 400000 in
theorem rsmall_calls (A : Option Addr) (c n : Nat) (y : Int) (xs : List Int) (w : World) (hx : Rd w A c xs) (hn : n = xs.length) (dx : Dg xs) (y0 : 0 < y) (y1 : y < 4294967296) (lx : xs.length ≤ 16777216) :
    Calls Try.prog 84 #[.slice A n c, .int .u32 y] w (OutD w (canon (val xs / y)) (val xs % y)) := by
  subst hn
  have hmk := make_u32 xs.length (xs.length : Int) rfl (by omega)
  have HX := Lib.hid hx
  have HDX := Lib.hid dx
  clear hx dx
  go_enter Try.func84, Try.ntmps84
  go_wp2_with fail
  go_loopw [7, 8] (fun v7 v8 wr => ∃ (k : Nat) (j : Int) (s : List Int) (rest : Int), v7 = .int .u64 rest ∧ v8 = .int .i64 j ∧ j + 1 = k ∧ k ≤ xs.length ∧ 0 ≤ rest ∧ rest < y ∧ Hid (OneInv xs y k s rest) ∧ Hid (Own wr w.heap.size (some ⟨w.heap.size, 0, none⟩) xs.length s) ∧ Hid (Below w.heap.size w wr)) (fun _ v _ => (intOf v + 1).toNat)
  case atStart => exact ⟨xs.length, _, _, 0, rfl, rfl, by omega, Nat.le_refl _, by omega, y0, OneInv.init y0, Own.made w _ _ (Nat.le_refl _) (by omega), (Below.refl _ _).alloc (Nat.le_refl _) _⟩
  case round =>
    obtain ⟨k, j, s, rest, rfl, rfl, hj, hk, hr0, hr1, HI, HO, HB⟩ := hrel
    cases k with
    | zero =>
      obtain rfl : j = -1 := by omega
      obtain ⟨hfq, hfr⟩ := HI.out.final HDX.out
      have hcq := cutL_canon HI.out.dg
      rw [hfq] at hcq
      have HCQ := Lib.hid hcq
      have HFR := Lib.hid hfr
      clear hfq hfr hcq
      go_wp2_with fail
      refine (rtrim_calls _ _ _ s _ HO.out.rd HI.out.len.symm).mono ?_
      rintro e w2 ⟨Q, kq, rfl, hQ, hB⟩
      go_wp2_with fail
      go_ret2
      rw [← HCQ.out, ← HFR.out]
      exact OutD.mk' rfl (hQ.mono HB.out.size) (below_then HB.out HB.out.size hB)
    | succ k =>
      obtain rfl : j = (k : Int) := by omega
      clear hj
      have ha := HDX.out.gd k
      obtain ⟨adx, ex, hcx⟩ := (HX.out.below HB.out).at_ k (by omega)
      cases ex
      have hO1 := HO.out.cell k (by have := HI.out.len; omega)
      have hO2 := HO.out.frozen k
      have hor := or_join64 (a := rest * 4294967296) (b := gd xs k) (k := 32) (by omega) (by omega) (by omega) (by omega) (by omega) (Int.mul_emod_left _ _)
      obtain ⟨hs, q0, q1⟩ := HI.out.step HDX.out (by omega) y1
      have HS := Lib.hid hs
      clear hs
      have m0 := Int.emod_nonneg (rest * 4294967296 + gd xs k) (show y ≠ 0 by omega)
      have m1 := Int.emod_lt_of_pos (rest * 4294967296 + gd xs k) y0
      go_wp2
      go_roundw
      case rel => exact ⟨k, _, _, _, rfl, rfl, by omega, by omega, m0, m1, HS, HO.out.set k _, HB.out.setCell (Nat.le_refl _) _⟩
      case measure => simp [intOf]

theorem bl_half {x : Int} (h0 : 0 < x) (h1 : x ≤ 4294967295) : bl x = bl (x / 2) + 1 := by
  unfold bl
  rw [Lib.bitLen_half x.toNat (by omega) (by omega), show (x / 2).toNat = x.toNat / 2 from by omega]
  omega
theorem bl_zero : bl 0 = 0 := by unfold bl; exact bitLen_zero

set_option maxRecDepth 100000 in
set_option maxHeartbeats 400000 in
theorem rbitlen_calls (A : Option Addr) (c : Nat) (d : Int) (w : World) (hx : Rd w A c [d]) (d0 : 0 < d) (d1 : d < 4294967296) :
    Calls Try.prog 85 #[.slice A 1 c] w fun e w' => e = .returned (.int .i64 (bl d)) ∧ Below w.heap.size w w' := by
  have hc : cutL [d] = [d] := by rw [canon_small (by omega) d1, canon_digit d0 d1]
  have KT := Lib.hid (rtrim_calls A c 1 [d] w hx rfl)
  rw [hc] at KT
  have hb := bl_le (x := d) (by omega) (by omega)
  clear hx hc
  go_enter Try.func85, Try.ntmps85
  go_wp2_with fail
  refine KT.out.mono ?_
  rintro e w1 ⟨R, k, rfl, hO, hB⟩
  obtain ⟨g, rfl, _, _⟩ := hO.form (by simp)
  have h0 := hO.cell 0 (by simp)
  rw [gd_zero] at h0
  have HB := Lib.hid hB
  clear hO hB
  go_wp2_with fail
  go_loop [3, 4] (fun v3 v4 => ∃ (m : Nat) (x : Int), v3 = .int .i64 m ∧ v4 = .int .u32 x ∧ 0 ≤ x ∧ x < 4294967296 ∧ m ≤ 32 ∧ Hid (m + bl x = bl d)) (fun _ v => (intOf v).toNat)
  case atStart => exact ⟨0, d, rfl, rfl, by omega, d1, by omega, by show _ = _; omega⟩
  case round =>
    obtain ⟨m, x, rfl, rfl, hx0, hx1, hm, HM⟩ := hrel
    by_cases hz : 0 < x
    · have hh := bl_half hz (by omega)
      have HM' : Hid ((m + 1) + bl (x / 2) = bl d) := by have := HM.out; show _ = _; omega
      have hm2 : m + 1 ≤ 32 := by have := HM'.out; omega
      clear hh
      go_wp2
      go_round
      case rel => exact ⟨m + 1, x / 2, by go_num, by go_num, by omega, by omega, by omega, HM'⟩
      case measure => simp [intOf]; omega
    · obtain rfl : x = 0 := by omega
      have hm' := HM.out
      rw [bl_zero] at hm'
      have HM' := Lib.hid hm'
      clear hm'
      go_wp2
      go_ret
      exact ⟨ret_int (by have := HM'.out; omega), HB.out⟩

/-- The loop of Shift upwards. -/
structure UpInv (xs : List Int) (P : Int) (i : Nat) (s : List Int) (c : Int) : Prop where
  len : s.length = i
  dg : Dg s
  c0 : 0 ≤ c
  c1 : c < P
  eq : val s + pw i * c = P * val (xs.take i)
theorem UpInv.init (xs : List Int) {P Q : Int} (h : Pow2 P Q) : UpInv xs P 0 [] 0 := ⟨rfl, Dg.nil, by omega, by have := h.p0; omega, by simp⟩
theorem UpInv.step {xs : List Int} {P Q : Int} {i : Nat} {s : List Int} {c t : Int} (h : UpInv xs P i s c) (hP : Pow2 P Q) (hx : Dg xs) (ht : t = c + gd xs i * P) : UpInv xs P (i + 1) (s ++ [t % 4294967296]) (t / 4294967296) := by
  have a := hx.gd i
  have h0 := h.c0
  have h1 := h.c1
  have hl := h.len
  have he := h.eq
  have m0 : 0 ≤ gd xs i * P := Int.mul_nonneg a.1 (by omega)
  have m1 : gd xs i * P ≤ 4294967295 * P := Int.mul_le_mul_of_nonneg_right (by omega) (by omega)
  obtain ⟨r, hr⟩ : ∃ r, r = t % 4294967296 := ⟨_, rfl⟩
  obtain ⟨q, hq⟩ : ∃ q, q = t / 4294967296 := ⟨_, rfl⟩
  rw [← hr, ← hq]
  have e : r = t - 4294967296 * q := by omega
  refine ⟨by simp [hl], h.dg.append (Dg.cons (by omega) (by omega) Dg.nil), by omega, by omega, ?_⟩
  rw [val_append, val_take_succ, pw_succ, hl, val_cons, val_nil]
  clear hr hq
  subst e ht
  grind
theorem UpInv.final {xs : List Int} {P : Int} {s : List Int} {c : Int} (h : UpInv xs P xs.length s c) : val (s ++ [c]) = P * val xs := by
  have he := h.eq
  rw [val_take_ge (Nat.le_refl _)] at he
  rw [val_append, h.len, val_cons, val_nil, Int.mul_zero, Int.add_zero]
  omega
theorem u64_or_comm (a b : Int) (h1 : 0 ≤ a) (h2 : a < 18446744073709551616) (h3 : 0 ≤ b) (h4 : b < 18446744073709551616) : bits .or .u64 a b = bits .or .u64 b a := by
  rw [u64_or a b h1 h2 h3 h4, u64_or b a h3 h4 h1 h2, Nat.or_comm]

set_option maxRecDepth 100000 in
set_option maxHeartbeats 400000 in
theorem rshift_up (A : Option Addr) (c n : Nat) (s : Int) (xs : List Int) (w : World) (hx : Rd w A c xs) (hn : n = xs.length) (dx : Dg xs) (s0 : 0 ≤ s) (s1 : s ≤ 31) (lx : xs.length ≤ 16777216) :
    Calls Try.prog 86 #[.slice A n c, .int .i64 s] w (Out w (canon ((2 : Int) ^ s.toNat * val xs))) := by
  subst hn
  have HP := Lib.hid (Pow2.of s s0 s1)
  have KT := Lib.hid (rtrim_calls A c xs.length xs w hx rfl)
  have hcl := cutL_length_le xs
  have HD := Lib.hid (cutL_dg dx)
  rw [← cutL_val xs]
  generalize cutL xs = xs' at *
  clear hx dx
  by_cases h0 : xs'.length = 0
  · have hb : ((xs'.length : Int) == 0) = true := by rw [h0]; rfl
    have hr : canon ((2 : Int) ^ s.toNat * val xs') = [] := by
      rw [List.length_eq_zero_iff.1 h0]; simp [canon_zero]
    have HR := Lib.hid hr
    clear hr h0
    go_enter Try.func86, Try.ntmps86
    go_wp2_with fail
    refine KT.out.mono ?_
    rintro e w1 ⟨R, k, rfl, hO, hB⟩
    go_wp2_with fail
    go_ret
    rw [HR.out]
    exact Out.mk' rfl (Own.nil _ _) hB
  · have hb : ((xs'.length : Int) == 0) = false := by simp; intro he; exact h0 (by rw [he]; rfl)
    have hmk := make_u32 0 (s / 32) (by omega) (by omega)
    have hs32 : s % 32 = s := by omega
    clear h0
    go_enter Try.func86, Try.ntmps86
    go_wp2_with fail
    refine KT.out.mono ?_
    rintro e w1 ⟨R, k, rfl, hO, hB⟩
    have HR := Lib.hid hO.rd
    have HB1 := Lib.hid hB
    clear hO hB
    go_wp2_with fail
    go_loopw [8, 9, 10] (fun v8 v9 v10 wr => ∃ (i : Nat) (o : List Int) (cr : Int) (R : Option Addr) (k : Nat), v8 = .slice R o.length k ∧ v9 = .int .u64 cr ∧ v10 = .int .i64 i ∧ i ≤ xs'.length ∧ 0 ≤ cr ∧ cr ≤ 2147483647 ∧ Hid (UpInv xs' ((2 : Int) ^ s.toNat) i o cr) ∧ Hid (Own wr w1.heap.size R k o) ∧ Hid (Below w1.heap.size w1 wr)) (fun _ _ v _ => xs'.length - (intOf v).toNat)
    case atStart => exact ⟨0, [], 0, _, _, rfl, rfl, rfl, Nat.zero_le _, by omega, by omega, UpInv.init xs' HP.out, Own.made w1 _ 0 (Nat.le_refl _) (by omega), (Below.refl _ _).alloc (Nat.le_refl _) _⟩
    case round =>
      obtain ⟨i, o, cr, Ro, ko, rfl, rfl, rfl, hi, hc0, hc1, HI, HO, HB⟩ := hrel
      have HOL := Lib.hid HI.out.len
      by_cases hlt : i < xs'.length
      · have ha := HD.out.gd i
        obtain ⟨adx, ex, hcx⟩ := (HR.out.below HB.out).at_ i hlt
        cases ex
        have hP1 := HP.out.p1
        have hP0 := HP.out.p0
        have m0 : 0 ≤ gd xs' i * (2 : Int) ^ s.toNat := Int.mul_nonneg ha.1 (by omega)
        have m1 : gd xs' i * (2 : Int) ^ s.toNat ≤ 4294967295 * (2 : Int) ^ s.toNat := Int.mul_le_mul_of_nonneg_right (by omega) (by omega)
        have hw : IntKind.u64.wrap (gd xs' i * (2 : Int) ^ s.toNat) = gd xs' i * (2 : Int) ^ s.toNat := by rw [u64_mod]; omega
        have hor : bits .or .u64 cr (gd xs' i * (2 : Int) ^ s.toNat) = cr + gd xs' i * (2 : Int) ^ s.toNat := by
          rw [u64_or_comm _ _ hc0 (by omega) m0 (by omega), or_join64 (k := s.toNat) m0 (by omega) hc0 HI.out.c1 (by omega) (Int.mul_emod_left _ _)]; omega
        have HS := Lib.hid (HI.out.step HP.out HD.out rfl)
        have hs1 := HS.out.c1
        clear hP0 hP1
        go_wp2_with (at_builtin; refine app_law w1.heap.size rfl (.tmp 87) (.tmp 90) rfl Ro ko _ o rfl rfl (HO.out.alloc _) _ 1 1 [_] rfl rfl (lit1_at wr wr.heap.size wr.heap.size (Nat.le_refl _) rfl _).rd (by have := HOL.out; simp; omega) (by have := HB.out.size; simp; omega) ?_; intro R' k' w' hO hg)
        have HO' := Lib.hid hO
        have HB' := Lib.hid ((HB.out.alloc HB.out.size _).grown hg (by have := HB.out.size; simp; omega) HO.out.row)
        clear hO hg
        go_wp2_with fail
        go_roundw
        case rel => exact ⟨i + 1, _, _, R', k', slice_snoc _ _ _ _, rfl, by go_num, by omega, HS.out.c0, by have := HP.out.p1; omega, HS, HO'.out, HB'.out⟩
        case measure => simp [intOf]; omega
      · obtain rfl : i = xs'.length := by omega
        have hfin := HI.out.final
        have hdg : Dg (o ++ [cr]) := HI.out.dg.append (Dg.cons (by omega) (by omega) Dg.nil)
        have hcu := cutL_canon hdg
        rw [hfin] at hcu
        have HCU := Lib.hid hcu
        clear hfin hcu hdg
        go_wp2_with (at_builtin; refine app_law w1.heap.size rfl (.tmp 94) (.tmp 97) rfl Ro ko _ o rfl rfl (HO.out.alloc _) _ 1 1 [_] rfl rfl (lit1_at wr wr.heap.size wr.heap.size (Nat.le_refl _) rfl _).rd (by have := HOL.out; simp; omega) (by have := HB.out.size; simp; omega) ?_; intro R' k' w' hO hg)
        have HO' := Lib.hid hO
        have HB' := Lib.hid (below_then HB1.out HB1.out.size ((HB.out.alloc HB.out.size _).grown hg (by have := HB.out.size; simp; omega) HO.out.row))
        clear hO hg
        go_wp2_with fail
        refine (rtrim_calls _ _ _ _ _ HO'.out.rd (by simp)).mono ?_
        rintro e w2 ⟨R2, k2, rfl, hO2, hB2⟩
        go_wp2_with fail
        go_ret
        rw [← HCU.out]
        exact Out.mk' rfl (hO2.mono HB'.out.size) (below_then HB'.out HB'.out.size hB2)

/-- The loop of Shift downwards. -/
structure DownInv (xs : List Int) (P Q : Int) (i : Nat) (s : List Int) : Prop where
  len : s.length = i
  dg : Dg s
  eq : ∀ j, j < i → gd s j = lowD xs P Q j
theorem DownInv.init (xs : List Int) (P Q : Int) : DownInv xs P Q 0 [] := ⟨rfl, Dg.nil, fun j h => by omega⟩
theorem DownInv.step {xs : List Int} {P Q : Int} {i : Nat} {s : List Int} (h : DownInv xs P Q i s) (hP : Pow2 P Q) (hx : Dg xs) : DownInv xs P Q (i + 1) (s ++ [lowD xs P Q i]) := by
  have hb := lowD_bound hP hx i
  have hl := h.len
  refine ⟨by simp [hl], h.dg.append (Dg.cons hb.1 hb.2 Dg.nil), fun j hj => ?_⟩
  by_cases e : j < i
  · rw [gd_append_left (by omega)]; exact h.eq j e
  · obtain rfl : j = i := by omega
    rw [gd_append_right (by omega), show j - s.length = 0 from by omega, gd_zero]
theorem down_digit {xs : List Int} {P Q : Int} (hP : Pow2 P Q) (hx : Dg xs) (i : Nat) : (gd xs i + gd xs (i + 1) * 4294967296) / P % 4294967296 = lowD xs P Q i := by
  have a := hx.gd i
  have b := hx.gd (i + 1)
  obtain ⟨b0, b1, b2, b3, _⟩ := low_bound (e := gd xs (i + 1)) hP a.1 a.2
  have hh := high_eq (e := gd xs (i + 1)) hP
  have hp := hP.p0
  have e : gd xs i + gd xs (i + 1) * 4294967296 = gd xs i + P * (gd xs (i + 1) * Q) := by rw [← hP.pq]; grind
  rw [e, Int.add_mul_ediv_left _ _ (by omega)]
  unfold lowD
  omega

set_option maxRecDepth 100000 in
set_option maxHeartbeats 400000 in
theorem rshift_down (A : Option Addr) (c n : Nat) (s t : Int) (xs : List Int) (w : World) (hx : Rd w A c xs) (hn : n = xs.length) (ht : t = -s) (dx : Dg xs) (s0 : 1 ≤ s) (s1 : s ≤ 31) (lx : xs.length ≤ 16777216) :
    Calls Try.prog 86 #[.slice A n c, .int .i64 t] w (Out w (canon (val xs / (2 : Int) ^ s.toNat))) := by
  subst hn ht
  have HP := Lib.hid (Pow2.of s (by omega) s1)
  have KT := Lib.hid (rtrim_calls A c xs.length xs w hx rfl)
  have hcl := cutL_length_le xs
  have HD := Lib.hid (cutL_dg dx)
  rw [← cutL_val xs]
  generalize cutL xs = xs' at *
  clear hx dx
  by_cases h0 : xs'.length = 0
  · have hb : ((xs'.length : Int) == 0) = true := by rw [h0]; rfl
    have hr : canon (val xs' / (2 : Int) ^ s.toNat) = [] := by
      rw [List.length_eq_zero_iff.1 h0]; simp [canon_zero]
    have HR := Lib.hid hr
    clear hr h0
    go_enter Try.func86, Try.ntmps86
    go_wp2_with fail
    refine KT.out.mono ?_
    rintro e w1 ⟨R, k, rfl, hO, hB⟩
    go_wp2_with fail
    go_ret
    rw [HR.out]
    exact Out.mk' rfl (Own.nil _ _) hB
  · have hb : ((xs'.length : Int) == 0) = false := by simp; intro he; exact h0 (by rw [he]; rfl)
    have hlen : 1 ≤ xs'.length := by omega
    have hs32 : s % 32 = s := by omega
    have hs0 : s / 32 = 0 := by omega
    have hb0 : decide (0 < s) = true := by simp; omega
    clear h0
    go_enter Try.func86, Try.ntmps86
    go_wp2_with fail
    refine KT.out.mono ?_
    rintro e w1 ⟨R, k, rfl, hO, hB⟩
    have HR := Lib.hid hO.rd
    have HB1 := Lib.hid hB
    clear hO hB
    go_wp2_with fail
    simp only [hs0, hb0]
    go_loopw [5, 6] (fun v5 v6 wr => ∃ (i : Nat) (o : List Int) (R : Option Addr) (k : Nat), v5 = .slice R o.length k ∧ v6 = .int .i64 i ∧ i ≤ xs'.length ∧ Hid (DownInv xs' ((2 : Int) ^ s.toNat) ((2 : Int) ^ (32 - s).toNat) i o) ∧ Hid (Own wr w1.heap.size R k o) ∧ Hid (Below w1.heap.size w1 wr)) (fun _ v _ => xs'.length - (intOf v).toNat)
    case atStart => exact ⟨0, [], _, _, rfl, rfl, Nat.zero_le _, DownInv.init xs' _ _, Own.nil _ _, Below.refl _ _⟩
    case round =>
      obtain ⟨i, o, Ro, ko, rfl, rfl, hi, HI, HO, HB⟩ := hrel
      have HOL := Lib.hid HI.out.len
      by_cases hlt : i < xs'.length
      · have ha := HD.out.gd i
        obtain ⟨adx, ex, hcx⟩ := (HR.out.below HB.out).at_ i hlt
        cases ex
        have HS := Lib.hid (HI.out.step HP.out HD.out)
        have hdd := down_digit HP.out HD.out i
        obtain ⟨a, hai⟩ : ∃ a, i + 1 = a := ⟨_, rfl⟩
        have i1 : (i : Int) + 1 = (a : Int) := by omega
        rw [hai] at hdd HS
        have ha1 : a ≤ xs'.length := by omega
        have hpp : xs'.length - a < xs'.length - i := by omega
        clear hai
        by_cases hlt2 : a < xs'.length
        · have ha2 := HD.out.gd a
          obtain ⟨adx, ex, hcx2⟩ := (HR.out.below HB.out).at_ a hlt2
          cases ex
          have hor : bits .or .u64 (gd xs' i) (gd xs' a * 4294967296) = gd xs' i + gd xs' a * 4294967296 := by
            rw [u64_or_comm _ _ (by omega) (by omega) (by omega) (by omega), or_join64 (a := gd xs' a * 4294967296) (b := gd xs' i) (k := 32) (by omega) (by omega) ha.1 (by omega) (by omega) (Int.mul_emod_left _ _)]; omega
          go_wp2_with (at_builtin; refine app_law w1.heap.size rfl (.tmp 56) (.tmp 63) rfl Ro ko _ o rfl rfl (HO.out.alloc _) _ 1 1 [_] rfl rfl (lit1_at wr wr.heap.size wr.heap.size (Nat.le_refl _) rfl _).rd (by have := HOL.out; simp; omega) (by have := HB.out.size; simp; omega) ?_; intro R' k' w' hO hg)
          have HO' := Lib.hid hO
          have HB' := Lib.hid ((HB.out.alloc HB.out.size _).grown hg (by have := HB.out.size; simp; omega) HO.out.row)
          clear hO hg
          go_wp2_with fail
          go_roundw
          case rel => exact ⟨a, _, R', k', slice_snoc _ _ _ _, by go_num, by omega, HS, HO'.out, HB'.out⟩
          case measure => simp [intOf]; omega
        · have hz := gd_ge (xs := xs') (k := a) (by omega)
          rw [hz, Int.zero_mul, Int.add_zero] at hdd
          clear hz
          go_wp2_with (at_builtin; refine app_law w1.heap.size rfl (.tmp 56) (.tmp 63) rfl Ro ko _ o rfl rfl (HO.out.alloc _) _ 1 1 [_] rfl rfl (lit1_at wr wr.heap.size wr.heap.size (Nat.le_refl _) rfl _).rd (by have := HOL.out; simp; omega) (by have := HB.out.size; simp; omega) ?_; intro R' k' w' hO hg)
          have HO' := Lib.hid hO
          have HB' := Lib.hid ((HB.out.alloc HB.out.size _).grown hg (by have := HB.out.size; simp; omega) HO.out.row)
          clear hO hg
          go_wp2_with fail
          go_roundw
          case rel => exact ⟨a, _, R', k', slice_snoc _ _ _ _, by go_num, by omega, HS, HO'.out, HB'.out⟩
          case measure => simp [intOf]; omega
      · obtain rfl : i = xs'.length := by omega
        have hv := low_val HP.out HI.out.len HI.out.eq
        have hcu := cutL_canon HI.out.dg
        rw [hv] at hcu
        have HCU := Lib.hid hcu
        have HB' := Lib.hid (below_then HB1.out HB1.out.size HB.out)
        clear hv hcu
        go_wp2_with fail
        refine (rtrim_calls _ _ _ _ _ HO.out.rd rfl).mono ?_
        rintro e w2 ⟨R2, k2, rfl, hO2, hB2⟩
        go_wp2_with fail
        go_ret
        rw [← HCU.out]
        exact Out.mk' rfl (hO2.mono HB'.out.size) (below_then HB'.out HB'.out.size hB2)
end Go.Proofs.Ytcmiciloiicfoaa
