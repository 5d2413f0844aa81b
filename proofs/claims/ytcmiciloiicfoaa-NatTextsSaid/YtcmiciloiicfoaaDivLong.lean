/- nat.divide where the divisor has two digits or more. -/
import Derived.Test.YtcmiciloiicfoaaDivide
import Derived.Deep.RegionWith
namespace Go.Proofs.Ytcmiciloiicfoaa
open Go.RowKit Go.Proofs.YtcmiciloiicfoaaW.PrintWords

/-- What normalisation gives: s = 32 minus the bits of the divisor's highest digit. -/
structure Norm (xs ys : List Int) (a : Nat) (s : Int) : Prop where
  s0 : 0 ≤ s
  s1 : s ≤ 31
  v : (2 : Int) ^ s.toNat * val ys < pw ys.length
  u : (2 : Int) ^ s.toNat * val xs < pw (xs.length + 1)
  d : val ((digs (xs.length + 1) ((2 : Int) ^ s.toNat * val xs)).drop (xs.length - ys.length + 1)) < (2 : Int) ^ s.toNat * val ys
theorem top1 {xs : List Int} {n : Nat} (hl : xs.length = n + 1) : val xs = val (xs.take n) + pw n * gd xs n := by
  have e : val xs = val (xs.take (n + 1)) := by rw [List.take_of_length_le (by omega)]
  rw [e, val_take_succ]
theorem digs_drop (m k : Nat) (v : Int) (h : k ≤ m) : (digs m v).drop k = digs (m - k) (v / pw k) := by
  induction k generalizing m v with
  | zero => simp
  | succ k ih =>
    obtain ⟨m, rfl⟩ : ∃ t, m = t + 1 := ⟨m - 1, by omega⟩
    simp only [digs, List.drop_succ_cons]
    rw [ih m (v / 4294967296) (by omega), Int.ediv_ediv, if_neg (by omega), Int.sub_zero, pw_succ, show m + 1 - (k + 1) = m - k from by omega]
theorem Norm.of {xs ys : List Int} (dx : Dg xs) (dy : Dg ys) (ny : Nm ys) (hl : 1 ≤ ys.length) (hle : ys.length ≤ xs.length) :
    Norm xs ys (ys.length - 1) (32 - bl (gd ys (ys.length - 1))) := by
  obtain ⟨n, hn⟩ : ∃ n, ys.length = n + 1 := ⟨ys.length - 1, by omega⟩
  have hg := dy.gd n
  have hnz := ny (by omega)
  rw [hn, Nat.add_sub_cancel] at hnz ⊢
  have b0 := bl_pos (x := gd ys n) (by omega) (by omega)
  have b1 := bl_le (x := gd ys n) (by omega) (by omega)
  have bh := bl_high (x := gd ys n) (by omega) (by omega)
  have hP := Pow2.of (32 - bl (gd ys n)) (by omega) (by omega)
  have hQ : (32 - (32 - (bl (gd ys n) : Int))).toNat = bl (gd ys n) := by omega
  rw [hQ] at hP
  have p0 := hP.p0
  have pq := hP.pq
  have p1 := hP.p1
  obtain ⟨P, hPe⟩ : ∃ P, P = (2 : Int) ^ (32 - (bl (gd ys n) : Int)).toNat := ⟨_, rfl⟩
  rw [← hPe] at hP p0 pq p1
  have goal : 0 ≤ 32 - (bl (gd ys n) : Int) ∧ 32 - (bl (gd ys n) : Int) ≤ 31 := by omega
  clear hQ
  have hy0 := val_nonneg dy
  have hx0 := val_nonneg dx
  have hv : P * val ys < pw (n + 1) := by
    rw [top1 hn, pw_succ]
    have h1 := val_lt (dy.take n)
    rw [List.length_take, Nat.min_eq_left (by omega)] at h1
    have h2 : P * (gd ys n + 1) ≤ P * (2 : Int) ^ bl (gd ys n) := Int.mul_le_mul_of_nonneg_left (by omega) (by omega)
    have h3 : P * (val (ys.take n) + pw n * gd ys n) < P * (pw n * (gd ys n + 1)) := by
      apply Int.mul_lt_mul_of_pos_left _ (by omega)
      rw [Int.mul_add]; omega
    have h4 : P * (pw n * (gd ys n + 1)) = pw n * (P * (gd ys n + 1)) := by grind
    have h5 : pw n * (P * (gd ys n + 1)) ≤ pw n * 4294967296 := Int.mul_le_mul_of_nonneg_left (by omega) (Int.le_of_lt (pw_pos n))
    omega
  have hu : P * val xs < pw (xs.length + 1) := by
    have h1 := val_lt dx
    have h2 : P * val xs ≤ 4294967295 * val xs := Int.mul_le_mul_of_nonneg_right (by omega) hx0
    rw [pw_succ]; omega
  have hyp : pw n ≤ val ys := by
    have := nm_pos dy ny (by omega)
    rwa [hn, Nat.add_sub_cancel] at this
  refine ⟨goal.1, goal.2, by rw [hn, ← hPe]; exact hv, by rw [← hPe]; exact hu, ?_⟩
  rw [← hPe]
  rw [digs_drop _ _ _ (by omega), hn]
  have hk : xs.length - (n + 1) + 1 = xs.length - n := by omega
  rw [hk]
  have hpk := pw_pos (xs.length - n)
  have e1 : pw xs.length = pw (xs.length - n) * pw n := by rw [← pw_add, Nat.sub_add_cancel (by omega)]
  have h1 := val_lt dx
  have hq : P * val xs / pw (xs.length - n) < P * pw n := by
    apply Int.ediv_lt_of_lt_mul hpk
    have : P * val xs < P * pw xs.length := Int.mul_lt_mul_of_pos_left h1 (by omega)
    rw [e1] at this
    have e2 : P * pw n * pw (xs.length - n) = P * (pw (xs.length - n) * pw n) := by grind
    omega
  have hq2 : P * pw n ≤ P * val ys := Int.mul_le_mul_of_nonneg_left hyp (by omega)
  have hq0 : 0 ≤ P * val xs / pw (xs.length - n) := Int.ediv_nonneg (Int.mul_nonneg (by omega) hx0) (by omega)
  have hv' := hv
  rw [digs_val hq0 (by rw [show xs.length + 1 - (xs.length - n) = n + 1 from by omega]; omega)]
  omega
theorem top_ne {V : List Int} (dV : Dg V) (hl : 0 < V.length) (h : pw (V.length - 1) ≤ val V) : gd V (V.length - 1) ≠ 0 := by
  obtain ⟨n, hn⟩ : ∃ n, V.length = n + 1 := ⟨V.length - 1, by omega⟩
  rw [hn, Nat.add_sub_cancel] at h ⊢
  intro hz
  have h1 := val_lt (dV.take n)
  rw [List.length_take, Nat.min_eq_left (by omega)] at h1
  have h2 := top1 hn
  rw [hz, Int.mul_zero] at h2
  omega
theorem LongInv.div1 {U0 V : List Int} {m j : Nat} {s U : List Int} (h : LongInv U0 V m (j + 1) s U) (hV : Dg V) (h2 : 2 ≤ V.length) (ht : gd V (V.length - 1) ≠ 0) (hjm : j + V.length + 1 ≤ U0.length) :
    Div1 ((U.drop j).take (V.length + 1)) V := by
  obtain ⟨h1, e, _, d, l⟩ := h.window hV hjm
  exact ⟨d, hV, h2, l, ht, by rw [e]; exact h1⟩
theorem split3 (U : List Int) (j n : Nat) : U = U.take j ++ ((U.drop j).take (n + 1) ++ U.drop (j + n + 1)) := by
  have h1 := List.take_append_drop (n + 1) (U.drop j)
  rw [List.drop_drop, show j + (n + 1) = j + n + 1 from by omega] at h1
  rw [h1, List.take_append_drop]
theorem Own.setOther {w : World} {base c g : Nat} {s : List Int} (h : Own w base (some ⟨g, 0, none⟩) c s) {p : Addr} (hp : p.block ≠ g) (u : Value) : Own (w.setCell p u) base (some ⟨g, 0, none⟩) c s :=
  h.keep fun g' e => by
    injection e with e
    injection e with e _ _
    subst e
    exact Below.heap_setCell w p u g (Ne.symm hp)
theorem cut_window (g C L j n : Nat) (hC : L ≤ C) (hjn : j + n + 1 ≤ L) :
    ∀ W : World, (Instr.slice 45 (.slice (some ⟨g, 0, none⟩) L C) (some (.int .i64 (j : Int))) (some (.int .i64 ((j : Int) + (n : Int) + 1))) none).run Try.prog W = .ok (.slice (some ⟨g, j, none⟩) (n + 1) (C - j)) W := by
  intro W
  obtain ⟨i0, hi, hz0, hz1, hz2⟩ := info_parts info53
  have h := cut_mid (P := Try.prog) 45 53 .i64 .i64 Try.underlying45 hi 1 hz1 (some ⟨g, 0, none⟩) L C (j : Int) ((j : Int) + (n : Int) + 1) (by omega) (by omega) (by omega) hC W
  rw [h, if_neg (by omega)]
  have e1 : ((j : Int) + (n : Int) + 1).toNat - (j : Int).toNat = n + 1 := by omega
  rw [e1]
  simp only [Int.toNat_natCast, Option.map_some, Nat.mul_one]
  rw [add_plain]

theorem Own.cutL' {w : World} {base c : Nat} {A : Option Addr} {s : List Int} (h : Own w base A c s) : Own w base A c (Ytcmiciloiicfoaa.cutL s) := by
  cases A with
  | some ad => exact h.cutL (by simp)
  | none =>
    have h0 := h.nil0 rfl
    have h1 := h.cap
    obtain rfl : s = [] := List.length_eq_zero_iff.1 (by omega)
    exact h
theorem lift_calls2 (A : Option Addr) (c n m : Nat) (mi s : Int) (xs : List Int) (w : World) (hx : Rd w A c xs) (hn : n = xs.length) (hmi : mi = m) (dx : Dg xs) (h0 : 0 ≤ s) (h1 : s ≤ 31) (hm : m = n + 1 ∨ m = n ∧ (2 : Int) ^ s.toNat * val xs < pw xs.length) (hl : xs.length ≤ 16777216) :
    Calls Try.prog 99 #[.slice A n c, .int .u64 s, .int .i64 mi] w (Out w (digs m ((2 : Int) ^ s.toNat * val xs))) := by
  subst hmi
  exact lift_calls A c n m s xs w hx hn dx h0 h1 hm hl

set_option maxRecDepth 100000 in
set_option maxHeartbeats 1000000 in
theorem divide_long (A B : Option Addr) (c d n m : Nat) (xs ys : List Int) (w : World) (hx : Rd w A c xs) (hy : Rd w B d ys) (hn : n = xs.length) (hm : m = ys.length) (dx : Dg xs) (dy : Dg ys) (nx : Nm xs) (ny : Nm ys) (h : val ys ≤ val xs) (h2 : 2 ≤ ys.length) (lx : xs.length ≤ 16777215) :
    Calls Try.prog 73 #[.slice A n c, .slice B m d] w (Out2 w (canon (val xs / val ys)) (canon (val xs % val ys))) := by
  subst hn hm
  have hle := len_le_of_val dx dy nx ny h
  have hN := Norm.of dx dy ny (by omega) hle
  have hyp := nm_pos dy ny (by omega)
  have hpp := pw_pos (ys.length - 1)
  have hc : decide (cmpI (val xs) (val ys) < 0) = false := by
    rcases Int.lt_or_eq_of_le h with h | h
    · rw [cmpI_gt h]; rfl
    · rw [h, cmpI_eq]; rfl
  obtain ⟨a, ha⟩ : ∃ a, ys.length - 1 = a := ⟨_, rfl⟩
  rw [ha] at hN
  obtain ⟨bdy, eb, hcy⟩ := hy.at_ a (by omega)
  subst eb
  have hg := dy.gd a
  have hs0 := hN.s0
  have hs1 := hN.s1
  have i1 : (ys.length : Int) - 1 = (a : Int) := by omega
  have hb1 : ((ys.length : Int) == 1) = false := by simp; omega
  have hmk := make_u32 (xs.length - ys.length + 1) ((xs.length : Int) - (ys.length : Int) + 1) (by omega) (by omega)
  have hP := Pow2.of _ hs0 hs1
  -- the divisor, normalised
  have hV0 : 0 ≤ (2 : Int) ^ (32 - (bl (gd ys a) : Int)).toNat * val ys := Int.mul_nonneg (by have := hP.p0; omega) (by omega)
  have hU0 : 0 ≤ (2 : Int) ^ (32 - (bl (gd ys a) : Int)).toNat * val xs := Int.mul_nonneg (by have := hP.p0; omega) (by omega)
  have hVv := digs_val hV0 hN.v
  have hUv := digs_val hU0 hN.u
  have HX := Lib.hid hx
  have HY := Lib.hid hy
  have HDX := Lib.hid dx
  have HDY := Lib.hid dy
  have HP := Lib.hid hP
  have HNm := Lib.hid hN
  have HVv := Lib.hid hVv
  have HUv := Lib.hid hUv
  have HA := Lib.hid ha
  have HYP := Lib.hid hyp
  have KL := Lib.hid fun W => lz_calls (gd ys a) W hg.1 (by omega)
  have la : a < ys.length := by omega
  clear hx hy dx dy nx ny h hP hN hVv hUv hV0 hU0 hyp hpp ha
  go_enter Try.func73, Try.ntmps73
  go_wp2_with fail
  refine (compare_calls A (some bdy) c d _ _ xs ys _ HX.out HY.out HDX.out HDY.out rfl rfl).mono ?_
  rintro e w' ⟨rfl, ⟨nd, rfl⟩⟩
  have hcy0 : ((w.drewN nd).alloc (.cells (madeCells #[.int .u32 0] (xs.length - ys.length + 1)) 53)).cell? (bdy.add a) = some (.int .u32 (gd ys a)) := by
    have := ((HY.out.drewN nd).alloc (.cells (madeCells #[.int .u32 0] (xs.length - ys.length + 1)) 53)).at_ a la
    obtain ⟨b', e, h⟩ := this
    cases e
    exact h
  clear hcy
  go_wp2_with fail
  refine (KL.out _).mono ?_
  rintro e w' ⟨rfl, rfl⟩
  go_wp2_with fail
  obtain ⟨W1, hW1⟩ : ∃ W1, W1 = (w.drewN nd).alloc (.cells (madeCells #[.int .u32 0] (xs.length - ys.length + 1)) 53) := ⟨_, rfl⟩
  rw [← hW1]
  have hB1 : Below w.heap.size w W1 := by rw [hW1]; exact (pw_below_drewN (Below.refl _ _) nd).alloc (Nat.le_refl _) _
  have hQ1 : Own W1 w.heap.size (some ⟨w.heap.size, 0, none⟩) (xs.length - ys.length + 1) (List.replicate (xs.length - ys.length + 1) 0) := by
    rw [hW1]; exact Own.made (w.drewN nd) _ _ (Nat.le_refl _) (by omega)
  have hz1 : w.heap.size + 1 = W1.heap.size := by rw [hW1]; simp
  have HZ1 := Lib.hid hz1
  have HB1 := Lib.hid hB1
  have HQ1 := Lib.hid hQ1
  clear hW1 hcy0 hB1 hQ1 hz1
  refine (lift_calls2 A c _ (xs.length + 1) _ _ xs _ (HX.out.below HB1.out) rfl (by omega) HDX.out hs0 hs1 (.inl rfl) (by omega)).mono ?_
  rintro e w2 ⟨Ru, ku, rfl, hOu, hBu⟩
  have hB2 := below_then HB1.out HB1.out.size hBu
  have hQ2 := HQ1.out.below hBu
  obtain ⟨gu, rfl, hgu0, hgu1⟩ := hOu.form (by rw [digs_length]; omega)
  rw [digs_length]
  have HOU := Lib.hid hOu
  have HB2 := Lib.hid hB2
  have HQ2 := Lib.hid hQ2
  clear hOu hBu hB2 hQ2 HQ1
  go_wp2_with fail
  refine (lift_calls2 (some bdy) d _ ys.length _ _ ys _ (HY.out.below HB2.out) rfl rfl HDY.out hs0 hs1 (.inr ⟨rfl, HNm.out.v⟩) (by omega)).mono ?_
  rintro e w3 ⟨Rv, kv, rfl, hOv, hBv⟩
  have hB3 := below_then HB2.out HB2.out.size hBv
  have hQ3 := HQ2.out.below hBv
  have hU3 := HOU.out.below hBv
  obtain ⟨gv, rfl, hgv0, hgv1⟩ := hOv.form (by rw [digs_length]; omega)
  rw [digs_length]
  have hguv : gu < gv := by omega
  have hgq : w.heap.size < gu := by have := HZ1.out; omega
  have HV := Lib.hid hOv
  have HB3 := Lib.hid hB3
  have HQ3 := Lib.hid hQ3
  have HU3 := Lib.hid hU3
  clear hOv hBv hB3 hQ3 hU3 HOU HQ2 hgu0 hgu1 hgv0 hgv1
  go_wp2_with fail
  obtain ⟨P, hPd⟩ : ∃ P, P = (2 : Int) ^ (32 - (bl (gd ys a) : Int)).toNat := ⟨_, rfl⟩
  obtain ⟨V, hVd⟩ : ∃ V, V = digs ys.length (P * val ys) := ⟨_, rfl⟩
  obtain ⟨U0, hUd⟩ : ∃ U0, U0 = digs (xs.length + 1) (P * val xs) := ⟨_, rfl⟩
  obtain ⟨mq, hmq⟩ : ∃ mq, mq = xs.length - ys.length + 1 := ⟨_, rfl⟩
  have hVl : V.length = ys.length := by rw [hVd, digs_length]
  have hUl : U0.length = xs.length + 1 := by rw [hUd, digs_length]
  have hVdg : Dg V := by rw [hVd]; exact digs_dg _ _
  have hUdg : Dg U0 := by rw [hUd]; exact digs_dg _ _
  have hVv := HVv.out
  have hUv := HUv.out
  have hinit := HNm.out.d
  rw [← hPd] at hVv hUv hinit
  rw [← hVd] at hVv
  rw [← hUd] at hUv hinit
  rw [← hmq] at hinit
  rw [← hVv] at hinit
  have hP1 : 1 ≤ P := by rw [hPd]; exact HP.out.p0
  have hVtop : gd V (V.length - 1) ≠ 0 := by
    apply top_ne hVdg (by omega)
    rw [hVl, hVv]
    have h1 := HYP.out
    have h3 := pw_pos (ys.length - 1)
    have h4 : 1 * val ys ≤ P * val ys := Int.mul_le_mul_of_nonneg_right hP1 (by omega)
    omega
  have hVp : 0 < val V := by
    rw [hVv]
    have h1 := HYP.out
    have h3 := pw_pos (ys.length - 1)
    exact Int.mul_pos (by omega) (by omega)
  have hV3 := HV.out.mono (show w.heap.size ≤ w2.heap.size from HB2.out.size)
  have hU3 := HU3.out.mono (show w.heap.size ≤ W1.heap.size by have := HZ1.out; omega)
  have hQ3 := HQ3.out
  rw [← hPd, ← hVd] at hV3
  rw [← hPd, ← hUd] at hU3
  rw [← hmq] at hQ3
  rw [← hmq]
  have hku : xs.length + 1 ≤ ku := by have := hU3.cap; omega
  have HVL := Lib.hid hVl
  have HUL := Lib.hid hUl
  have HVD := Lib.hid hVdg
  have HUD := Lib.hid hUdg
  have HVV := Lib.hid hVv
  have HUV := Lib.hid hUv
  have HIN := Lib.hid hinit
  have HTOP := Lib.hid hVtop
  have HVP := Lib.hid hVp
  have HV3 := Lib.hid hV3
  have HU3' := Lib.hid hU3
  have HQ3' := Lib.hid hQ3
  have HPD := Lib.hid hPd
  have hmq1 : mq ≤ xs.length := by omega
  have HMQ := Lib.hid hmq
  clear hVl hUl hVdg hUdg hVv hUv hinit hVtop hVp hV3 hU3 hQ3 hPd hVd hUd hmq HV HU3 HQ3 HVv HUv HZ1 HB1 HB2 hmk
  go_loopw [14] (fun v14 wr => ∃ (k : Nat) (j : Int) (s U : List Int), v14 = .int .i64 j ∧ j + 1 = k ∧ k ≤ mq ∧ Hid (LongInv U0 V mq k s U) ∧ Hid (Own wr w.heap.size (some ⟨w.heap.size, 0, none⟩) mq s) ∧ Hid (Own wr w.heap.size (some ⟨gu, 0, none⟩) ku U) ∧ Hid (Own wr w.heap.size (some ⟨gv, 0, none⟩) kv V) ∧ Hid (Below w.heap.size w wr)) (fun v _ => (intOf v + 1).toNat)
  case atStart => exact ⟨mq, _, _, U0, rfl, by have := HMQ.out; omega, Nat.le_refl _, LongInv.init HUD.out HIN.out, HQ3', HU3', HV3, HB3⟩
  case round =>
    clear HQ3' HU3' HV3 HB3
    obtain ⟨k, j, s, U, rfl, hj, hk, HI, HQ, HU, HV, HB⟩ := hrel
    cases k with
    | zero =>
      obtain rfl : j = -1 := by omega
      obtain ⟨hfs, hfu⟩ := HI.out.final
      have hUlen : U.length = xs.length + 1 := by rw [HI.out.ulen, HUL.out]
      have hsm : s.length = mq := HI.out.slen
      have hP1 := HP.out.p0
      rw [← HPD.out] at hP1
      have hPne : P ≠ 0 := by omega
      rw [HUV.out, HVV.out] at hfs hfu
      rw [Int.mul_ediv_mul_of_pos _ _ (by omega)] at hfs
      rw [Int.mul_emod_mul_of_pos _ _ (by omega)] at hfu
      have hcq := cutL_canon HI.out.sdg
      rw [hfs] at hcq
      -- what is left of the dividend, without its highest digits
      have hYpos : 0 < val ys := by have := HYP.out; have := pw_pos (ys.length - 1); omega
      have hm0 := Int.emod_nonneg (val xs) (show val ys ≠ 0 by omega)
      have hm1 := Int.emod_lt_of_pos (val xs) hYpos
      have hut : val (U.take ys.length) = P * (val xs % val ys) := by
        have h1 := val_take_drop U ys.length (by omega)
        have h3 := val_nonneg (HI.out.udg.drop ys.length)
        have h4 := val_nonneg (HI.out.udg.take ys.length)
        have h5 := HNm.out.v
        rw [← HPD.out] at h5
        have h6 : P * (val xs % val ys) ≤ P * val ys := Int.mul_le_mul_of_nonneg_left (by omega) (by omega)
        rcases Int.lt_or_le 0 (val (U.drop ys.length)) with hp | hp
        · have : pw ys.length * 1 ≤ pw ys.length * val (U.drop ys.length) := Int.mul_le_mul_of_nonneg_left (by omega) (Int.le_of_lt (pw_pos _))
          omega
        · have : val (U.drop ys.length) = 0 := by omega
          rw [this, Int.mul_zero] at h1
          omega
      have hrd : ∀ W, Own W w.heap.size (some ⟨gu, 0, none⟩) ku U → Rd W (some ⟨gu, 0, none⟩) ku (U.take ys.length) := fun W h => h.rd.take _ (by omega)
      have hutl : (U.take ys.length).length = ys.length := by rw [List.length_take]; omega
      have hutd := HI.out.udg.take ys.length
      generalize U.take ys.length = Ut at *
      have hlow : cutL (digs Ut.length (val Ut / P)) = canon (val xs % val ys) := by
        rw [cutL_canon (digs_dg _ _)]
        have e1 : val Ut / P = val xs % val ys := by rw [hut, Int.mul_ediv_cancel_left _ hPne]
        rw [e1, digs_val hm0]
        rw [hutl]
        have := val_lt HDY.out
        omega
      have HS := Lib.hid hsm
      have HCQ := Lib.hid hcq
      have HRD := Lib.hid hrd
      have HUT := Lib.hid hutl
      have HUD' := Lib.hid hutd
      have HLOW := Lib.hid hlow
      have hc1 : ys.length ≤ ku := by omega
      clear hfs hfu hUlen hsm hPne hcq hut hrd hutl hutd hlow hm0 hm1 hYpos hP1
      have hcutu : ∀ W : World, (Instr.slice 45 (.slice (some ⟨gu, 0, none⟩) (xs.length + 1) ku) none (some (.int .i64 (ys.length : Int))) none).run Try.prog W = .ok (.slice (some ⟨gu, 0, none⟩) ys.length ku) W := by
        obtain ⟨i0, hi, _⟩ := info_parts info53
        have := cut_to (P := Try.prog) 45 53 .i64 Try.underlying45 hi (some ⟨gu, 0, none⟩) (xs.length + 1) ku (ys.length : Int) (by omega) (by omega) (by omega)
        simpa using this
      have KQ := Lib.hid fun W (h : Own W w.heap.size (some ⟨w.heap.size, 0, none⟩) mq s) => cut_l (some ⟨w.heap.size, 0, none⟩) mq mq s W h.rd HI.out.slen.symm
      have ku0 := fun W (h : Own W w.heap.size (some ⟨gu, 0, none⟩) ku U) => lower_calls (some ⟨gu, 0, none⟩) ku ys.length (32 - (bl (gd ys a) : Int)) Ut W (HRD.out W h) HUT.out.symm HUD'.out hs0 hs1 (by have := HUT.out; omega)
      have hlow := HLOW.out
      rw [HPD.out] at hlow
      generalize digs Ut.length (val Ut / (2 : Int) ^ (32 - (bl (gd ys a) : Int)).toNat) = D at *
      have KU := Lib.hid ku0
      have HLOW' := Lib.hid hlow
      clear ku0 hlow
      go_wp2_with fail
      go_region_with (first
        | (go_at_call_of 72 (Value.slice (some ⟨w.heap.size, 0, none⟩) mq mq); refine (KQ.out _ ?_).mono ?_; (first | exact HQ.out | exact HQ.out.drew | exact HQ.out.drew.below (by assumption)); rintro e w' ⟨rfl, rfl⟩)
        | (go_at_call 101; refine (KU.out _ ?_).mono ?_; (first | exact HU.out | exact HU.out.drew); rintro e w4 ⟨Rl, kl, rfl, hOl, hBl⟩)
        | (go_at_call 72; refine (cut_l _ _ _ D _ ?_ rfl).mono ?_; (apply Own.rd; assumption); rintro e w' ⟨rfl, rfl⟩))
      go_wp2_with fail
      go_ret2
      have o1 := (HQ.out.drew.below hBl).cutL'
      have o2 := (hOl.mono (show w.heap.size ≤ wr.drew.heap.size from HB.out.size)).cutL'
      rw [HCQ.out] at o1 ⊢
      rw [HLOW'.out] at o2 ⊢
      have hb : Below w.heap.size w w4 := below_then (w1 := wr.drew) ⟨HB.out.os, HB.out.tape, HB.out.output, HB.out.size, HB.out.block⟩ HB.out.size hBl
      exact Out2.mk' rfl rfl o1 o2 hb
    | succ k =>
      obtain rfl : j = (k : Int) := by omega
      clear hj
      have hkn : k + ys.length + 1 ≤ xs.length + 1 := by have := HMQ.out; omega
      have hcw := cut_window gu ku (xs.length + 1) k ys.length hku hkn
      have hd1 := HI.out.div1 HVD.out (by have := HVL.out; omega) HTOP.out (by have := HVL.out; have := HUL.out; omega)
      obtain ⟨hst, q0, q1⟩ := HI.out.step HVD.out HVP.out HUD.out (by have := HVL.out; have := HUL.out; omega) (by omega)
      rw [HVL.out] at hd1 hst q0 q1
      have hwin : Win wr w.heap.size gu ku (U.take k) ((U.drop k).take (ys.length + 1)) (U.drop (k + ys.length + 1)) := ⟨by rw [← split3]; exact HU.out⟩
      have hl1 := hd1.len
      have hl2 : (U.take k).length = k := by rw [List.length_take]; have := HI.out.ulen; have := HUL.out; omega
      have HD1 := Lib.hid hd1
      have HST := Lib.hid hst
      have HWIN := Lib.hid hwin
      have HL1 := Lib.hid hl1
      have HL2 := Lib.hid hl2
      clear hd1 hst hwin hl1 hl2
      generalize (U.drop k).take (ys.length + 1) = Wd at *
      generalize U.take k = Pd at *
      generalize U.drop (k + ys.length + 1) = Td at *
      go_wp2_with fail
      refine (digit_calls w.heap.size gu ku _ kv _ _ _ (some ⟨gv, 0, none⟩) Pd Wd Td V _ HWIN.out HV.out.rd (by intro ad e; injection e with e; subst e; simp; omega) HD1.out (by rw [HL1.out, HVL.out]) HVL.out.symm HL2.out.symm (by have := HVL.out; omega) (by have := HL2.out; omega)).mono ?_
      rintro e w' ⟨rfl, hW', hG'⟩
      have hQ' := HQ.out.grown hG' (by intro g' e; injection e with e; injection e with e _ _; subst e; simp; omega)
      have hV' := HV.out.grown hG' (by intro g' e; injection e with e; injection e with e _ _; subst e; simp; omega)
      have hU' := hW'.own
      rw [HL1.out, HVL.out] at hU'
      have hB' := HB.out.grown hG' HB.out.size (by intro k' e; injection e with e; omega)
      have hO1 := hQ'.cell k (by have := HI.out.slen; omega)
      have hO2 := hQ'.frozen k
      have HQ' := Lib.hid hQ'
      have HV' := Lib.hid hV'
      have HU' := Lib.hid hU'
      have HB' := Lib.hid hB'
      clear hQ' hV' hU' hB' hW' hG' HQ HV HU HB
      go_wp2_with fail
      go_roundw
      case rel => exact ⟨k, _, _, _, rfl, by omega, by omega, HST, HQ'.out.set k _, HU'.out.setOther (by simp; omega) _, HV'.out.setOther (by simp; omega) _, HB'.out.setCell (Nat.le_refl _) _⟩
      case measure => simp [intOf]
end Go.Proofs.Ytcmiciloiicfoaa
