/- nat.Pow and nat.Root: the power, and the root, rounded down, by Newton's method. -/
import Derived.Test.YtcmiciloiicfoaaPow
import Derived.Test.YtcmiciloiicfoaaAdd
namespace Go.Proofs.Ytcmiciloiicfoaa
open Go.RowKit Go.Proofs.YtcmiciloiicfoaaW.PrintWords

/-- A fresh list and an error's number. -/
def OutE (w : World) (r : List Int) (x : Int) (e : Ending) (w' : World) : Prop :=
  ∃ R k, e = .returned (.tuple #[.slice R r.length k, .int .i64 x]) ∧ Own w' w.heap.size R k r ∧ Below w.heap.size w w'
theorem OutE.mk' {w w' : World} {r : List Int} {x : Int} {R : Option Addr} {k n : Nat} (hn : n = r.length) (ho : Own w' w.heap.size R k r) (hb : Below w.heap.size w w') : OutE w r x (.returned (.tuple #[.slice R n k, .int .i64 x])) w' :=
  ⟨R, k, by rw [hn], ho, hb⟩

set_option maxHeartbeats 400000 in
theorem pow_calls (A : Option Addr) (c l : Nat) (n : Nat) (ni : Int) (xs : List Int) (w : World) (hx : Rd w A c xs) (hl : l = xs.length) (hni : ni = n) (dx : Dg xs) (lx : xs.length ≤ 4096) (hn : n ≤ 64) :
    Calls Try.prog 38 #[.slice A l c, .int .i64 ni] w (OutE w (canon (val xs ^ n)) 0) := by
  subst hl hni
  have KP := Lib.hid (power_calls A c xs.length n n xs w hx rfl rfl dx lx hn)
  have h1 : decide ((n : Int) < 0) = false := by simp
  have h2 : decide (64 < (n : Int)) = false := by simp; omega
  clear hx dx
  go_enter Try.func38, Try.ntmps38
  go_wp2_with fail
  refine KP.out.mono ?_
  rintro e w' ⟨R, k, rfl, hO, hB⟩
  go_wp2_with fail
  go_ret2
  exact OutE.mk' rfl hO hB

theorem sq_nonneg (a : Int) : 0 ≤ a * a := by
  rcases Int.le_total 0 a with h | h
  · exact Int.mul_nonneg h h
  · exact Int.mul_nonneg_of_nonpos_of_nonpos h h
/-- (n+1) s r^n ≤ n r^(n+1) + s^(n+1). -/
theorem amgm (r s : Int) (hr : 0 ≤ r) (hs : 0 ≤ s) (n : Nat) : ((n : Int) + 1) * (s * r ^ n) ≤ n * r ^ (n + 1) + s ^ (n + 1) := by
  induction n with
  | zero => simp [Int.pow_succ]
  | succ n ih =>
    have h1 := Int.mul_le_mul_of_nonneg_left ih hs
    have h2 : 0 ≤ ((n : Int) + 1) * r ^ n * ((r - s) * (r - s)) := Int.mul_nonneg (Int.mul_nonneg (by omega) (Int.pow_nonneg hr)) (sq_nonneg _)
    have e1 : r ^ (n + 1 + 1) = r * r * r ^ n := by rw [Int.pow_succ, Int.pow_succ]; grind
    have e2 : r ^ (n + 1) = r * r ^ n := by rw [Int.pow_succ]; grind
    have e3 : s ^ (n + 1 + 1) = s * s ^ (n + 1) := by rw [Int.pow_succ]; grind
    rw [e1, e2, e3]
    rw [e2] at h1
    push_cast
    generalize r ^ n = x at *
    generalize s ^ (n + 1) = y at *
    generalize (n : Int) = m at *
    clear ih e1 e2 e3
    have id : (m + 1) * (r * r * x) + s * y - (m + 1 + 1) * (s * (r * x)) = (s * (m * (r * x) + y) - s * ((m + 1) * (s * x))) + (m + 1) * x * ((r - s) * (r - s)) := by grind
    omega
theorem newt_ge {r s X : Int} {n : Nat} (hr : 0 < r) (hs : 0 ≤ s) (hX : s ^ (n + 1) ≤ X) : s ≤ (n * r + X / r ^ n) / ((n : Int) + 1) := by
  rw [Int.le_ediv_iff_mul_le (by omega)]
  have h := amgm r s (by omega) hs n
  have hp : 0 < r ^ n := Int.pow_pos hr
  have h2 : ((n : Int) + 1) * s - n * r ≤ X / r ^ n := by
    rw [Int.le_ediv_iff_mul_le hp]
    have e : r ^ (n + 1) = r * r ^ n := by rw [Int.pow_succ]; grind
    rw [e] at h
    generalize r ^ n = x at *
    generalize s ^ (n + 1) = y at *
    generalize (n : Int) = m at *
    have id : ((m + 1) * s - m * r) * x = (m + 1) * (s * x) - m * (r * x) := by grind
    omega
  rw [Int.mul_comm]; omega
theorem newt_stop {r X : Int} {n : Nat} (hr : 0 < r) (h : r ≤ (n * r + X / r ^ n) / ((n : Int) + 1)) : r ^ (n + 1) ≤ X := by
  rw [Int.le_ediv_iff_mul_le (by omega)] at h
  have hp : 0 < r ^ n := Int.pow_pos hr
  have h2 : r ≤ X / r ^ n := by
    have : r * ((n : Int) + 1) = n * r + r := by grind
    omega
  rw [Int.le_ediv_iff_mul_le hp] at h2
  rw [Int.pow_succ, Int.mul_comm]; exact h2
/-- The loop of Root: r is at least the root. -/
structure RootInv (X : Int) (n : Nat) (L : Nat) (r : Int) : Prop where
  pos : 1 ≤ r
  up : ∀ s, 0 ≤ s → s ^ n ≤ X → s ≤ r
  le : r ≤ pw L
theorem RootInv.init {xs : List Int} {n : Nat} (dx : Dg xs) (hn : 1 ≤ n) : RootInv (val xs) n xs.length ((2 : Int) ^ ((blen xs).toNat + n - 1).div n) := by
  obtain ⟨b0, b1, b2⟩ := blen_spec dx
  obtain ⟨k, hk⟩ : ∃ k, k = ((blen xs).toNat + n - 1).div n := ⟨_, rfl⟩
  have hk' : k = ((blen xs).toNat + n - 1) / n := hk
  rw [← hk]
  have hkn : (blen xs).toNat ≤ k * n := by
    have h1 := Nat.div_add_mod ((blen xs).toNat + n - 1) n
    have h2 := Nat.mod_lt ((blen xs).toNat + n - 1) (show n > 0 by omega)
    rw [← hk'] at h1
    rw [Nat.mul_comm] at h1
    omega
  have hkl : k ≤ (blen xs).toNat := by
    rw [hk']
    rcases Nat.eq_zero_or_pos (blen xs).toNat with h | h
    · rw [h, Nat.div_eq_of_lt (by omega)]; omega
    · apply Nat.le_of_lt_succ
      rw [Nat.div_lt_iff_lt_mul (by omega)]
      have : (blen xs).toNat * n + n = ((blen xs).toNat + 1) * n := by rw [Nat.add_mul, Nat.one_mul]
      have h3 : (blen xs).toNat * 1 ≤ (blen xs).toNat * n := Nat.mul_le_mul_left _ hn
      rw [Nat.succ_eq_add_one]; omega
  have p1 : 1 ≤ (2 : Int) ^ k := by have := pow2_le 0 k (by omega); simpa using this
  refine ⟨p1, fun s hs h => ?_, ?_⟩
  · rcases Int.lt_or_le ((2 : Int) ^ k) s with hlt | hle
    · exfalso
      have h1 := ipow_le (show (0 : Int) ≤ 2 ^ k by omega) (Int.le_of_lt hlt) n
      rw [← Int.pow_mul] at h1
      have h2 := pow2_le (blen xs).toNat (k * n) hkn
      omega
    · exact hle
  · rw [pw_two]
    exact pow2_le k (32 * xs.length) (by omega)
theorem RootInv.next {X r : Int} {n L : Nat} (h : RootInv X (n + 1) L r) (hX : 1 ≤ X) (hlt : (n * r + X / r ^ n) / ((n : Int) + 1) < r) : RootInv X (n + 1) L ((n * r + X / r ^ n) / ((n : Int) + 1)) := by
  have hp := h.pos
  have hle := h.le
  refine ⟨newt_ge (by omega) (by omega) (by rw [Int.one_pow]; exact hX), fun s hs h' => newt_ge (by omega) hs h', by omega⟩
/-- The root, rounded down. -/
def IsRoot (X : Int) (n : Nat) (s : Int) : Prop := 0 ≤ s ∧ s ^ n ≤ X ∧ X < (s + 1) ^ n
theorem RootInv.done {X r : Int} {n L : Nat} (h : RootInv X (n + 1) L r) (hge : r ≤ (n * r + X / r ^ n) / ((n : Int) + 1)) : IsRoot X (n + 1) r := by
  have hp := h.pos
  refine ⟨by omega, newt_stop (by omega) hge, ?_⟩
  rcases Int.lt_or_le X ((r + 1) ^ (n + 1)) with hlt | hle
  · exact hlt
  · have := h.up (r + 1) (by omega) hle
    omega
theorem IsRoot.zero {n : Nat} (hn : 1 ≤ n) : IsRoot 0 n 0 := by
  obtain ⟨m, rfl⟩ : ∃ m, n = m + 1 := ⟨n - 1, by omega⟩
  exact ⟨by omega, by rw [Int.pow_succ]; simp, by rw [Int.zero_add, Int.one_pow]; omega⟩
theorem IsRoot.unique {X s t : Int} {n : Nat} (hs : IsRoot X n s) (ht : IsRoot X n t) : s = t := by
  obtain ⟨s0, s1, s2⟩ := hs
  obtain ⟨t0, t1, t2⟩ := ht
  rcases Int.lt_trichotomy s t with h | h | h
  · have := ipow_le (show 0 ≤ s + 1 by omega) (show s + 1 ≤ t by omega) n
    omega
  · exact h
  · have := ipow_le (show 0 ≤ t + 1 by omega) (show t + 1 ≤ s by omega) n
    omega
theorem RootInv.length {X r : Int} {n L : Nat} (h : RootInv X n L r) (hL : L ≤ 1000) : (canon r).length ≤ 1001 := by
  have hp := h.pos
  apply canon_length_le (by omega)
  have h1 := h.le
  have h2 := pw_le (i := L) (j := 1000) hL
  have h3 := pw_pos 1000
  have h4 : pw 1001 = 4294967296 * pw 1000 := pw_succ 1000
  rw [h4]; omega
/-- What Root leaves. -/
def RootOut (w : World) (X : Int) (n : Nat) (e : Ending) (w' : World) : Prop := ∃ s, IsRoot X n s ∧ OutE w (canon s) 0 e w'
theorem canon_nonempty {v : Int} (h : 1 ≤ v) : 1 ≤ (canon v).length := by
  rcases Nat.eq_zero_or_pos (canon v).length with h0 | h0
  · have := (canon_nil_iff (by omega : 0 ≤ v)).1 h0
    omega
  · exact h0

set_option maxRecDepth 100000 in
set_option maxHeartbeats 1000000 in
theorem root_calls (A : Option Addr) (c l : Nat) (n : Nat) (ni : Int) (xs : List Int) (w : World) (hx : Rd w A c xs) (hl : l = xs.length) (hni : ni = n) (dx : Dg xs) (lx : xs.length ≤ 1000) (hn1 : 1 ≤ n) (hn : n ≤ 64) :
    Calls Try.prog 37 #[.slice A l c, .int .i64 ni] w (RootOut w (val xs) n) := by
  subst hl hni
  have h1 : decide ((n : Int) < 1) = false := by simp; omega
  have h2 : decide (64 < (n : Int)) = false := by simp; omega
  have KX := Lib.hid fun W h => cut_l A c xs.length xs W h rfl
  have hle := cutL_length_le xs
  have HX := Lib.hid hx
  have HXc := Lib.hid hx.cutL
  have hcd := cutL_dg dx
  have hnx := cutL_nm xs
  rw [← cutL_val xs]
  clear hx dx
  generalize cutL xs = xs' at *
  have HDX := Lib.hid hcd
  have HNX := Lib.hid hnx
  by_cases h0 : xs'.length = 0
  · have hb : ((xs'.length : Int) == 0) = true := by rw [h0]; rfl
    have hv : val xs' = 0 := by rw [List.length_eq_zero_iff.1 h0]; rfl
    have HV := Lib.hid hv
    clear h0 hv hcd hnx
    go_enter Try.func37, Try.ntmps37
    go_wp2_with fail
    refine (KX.out _ HX.out).mono ?_
    rintro e w' ⟨rfl, rfl⟩
    go_wp2_with fail
    go_ret2
    rw [HV.out]
    exact ⟨0, IsRoot.zero hn1, OutE.mk' (by rw [canon_zero]; rfl) (by rw [canon_zero]; exact Own.nil _ _) (Below.refl _ _)⟩
  · have hb : ((xs'.length : Int) == 0) = false := by simp; intro he; exact h0 (by rw [he]; rfl)
    have hXp := val_pos_of_length hcd hnx (by omega)
    obtain ⟨m, hm⟩ : ∃ m, n = m + 1 := ⟨n - 1, by omega⟩
    have i1 : (n : Int) - 1 = (m : Int) := by omega
    obtain ⟨bl0, bl1, bl2⟩ := blen_spec hcd
    obtain ⟨k, hkd⟩ : ∃ k, k = ((blen xs').toNat + n - 1).div n := ⟨_, rfl⟩
    have hk : (blen xs' + (n : Int) - 1) / (n : Int) = (k : Int) := by
      have e : blen xs' + (n : Int) - 1 = (((blen xs').toNat + n - 1 : Nat) : Int) := by omega
      rw [e, hkd]
      exact (Int.natCast_ediv _ _).symm
    have hkl : k ≤ 16777216 := by
      have : k ≤ (blen xs').toNat + n - 1 := by rw [hkd]; exact Nat.div_le_self _ _
      omega
    have hinit := RootInv.init hcd hn1
    rw [← hkd] at hinit
    have KB := Lib.hid fun W h => bitlen_calls A c xs'.length xs' W h rfl hcd (by omega)
    have HIN := Lib.hid hinit
    have HXP := Lib.hid hXp
    have HM := Lib.hid hm
    have hml : m ≤ 63 := by omega
    have hblx : blen xs' ≤ 32000 := by omega
    clear h0 hXp hkd hinit hcd hnx hm bl1 bl2
    go_enter Try.func37, Try.ntmps37
    go_wp2_with fail
    refine (KX.out _ HX.out).mono ?_
    rintro e w' ⟨rfl, rfl⟩
    go_wp2_with fail
    refine (KB.out _ (HXc.out.alloc _)).mono ?_
    rintro e w' ⟨rfl, rfl⟩
    go_wp2_with fail
    refine (raise_calls _ _ _ k _ [1] _ (Own.lit1 w w.heap.size (Nat.le_refl _) 1).rd rfl rfl (Dg.cons (by omega) (by omega) Dg.nil) (by simp) (by simp) hkl).mono ?_
    rintro e w1 ⟨R1, k1, rfl, hO1, hB1⟩
    rw [val_one, Int.one_mul] at hO1 ⊢
    have hB1' := below_then ((Below.refl w.heap.size w).alloc (Nat.le_refl _) _) (by simp) hB1
    have HO1 := Lib.hid (hO1.mono (show w.heap.size ≤ (w.alloc (.cells #[.int .u32 1] 53)).heap.size by simp))
    have HB1 := Lib.hid hB1'
    clear hO1 hB1 hB1'
    go_wp2_with fail
    go_loopg [7] (((2 : Int) ^ k).toNat) (fun kq v7 wr => ∃ (R : Option Addr) (kr : Nat) (r : Int), v7 = .slice R (canon r).length kr ∧ Hid (r.toNat ≤ kq) ∧ Hid (RootInv (val xs') n xs'.length r) ∧ Hid (Own wr w.heap.size R kr (canon r)) ∧ Hid (Below w.heap.size w wr))
    case atStart => exact ⟨R1, k1, _, rfl, Nat.le_refl _, HIN.out, HO1, HB1⟩
    case round =>
      clear HO1 HB1
      obtain ⟨R, kr, r, rfl, HKQ, HRI, HO, HB⟩ := hrel
      cases gk with
      | zero => exact absurd HKQ.out (by have := HRI.out.pos; omega)
      | succ gk =>
        have hrp := HRI.out.pos
        have hrl := HRI.out.length (by omega)
        have HRL := Lib.hid hrl
        have HRP := Lib.hid hrp
        clear hrl hrp
        go_wp2_with fail
        refine (power_calls R kr _ m _ (canon r) _ HO.out.rd rfl rfl (canon_dg _) (by have := HRL.out; omega) (by omega)).mono ?_
        rintro e w2 ⟨R2, k2, rfl, hO2, hB2⟩
        have hr0 : 0 ≤ r := by have := HRP.out; omega
        rw [canon_val hr0] at hO2 ⊢
        have HB2 := Lib.hid (below_then HB.out HB.out.size hB2)
        have HO2 := Lib.hid hO2
        have HR2 := Lib.hid (HO.out.below hB2)
        have hrm : 1 ≤ r ^ m := Int.pow_pos (by have := HRP.out; omega)
        have HRM := Lib.hid hrm
        clear hO2 hB2 hrm
        go_wp2_with fail
        refine (divide_calls A R2 c k2 _ _ xs' (canon (r ^ m)) _ (HXc.out.below HB2.out) HO2.out.rd rfl rfl HDX.out (canon_dg _) HNX.out (canon_nm _) (canon_nonempty HRM.out) (by omega)).mono ?_
        rintro e w3 ⟨Q, kq, Q', kq', rfl, hQ, hQ', hB3⟩
        rw [canon_val (by have := HRM.out; omega)] at hQ hQ' ⊢
        have HB3 := Lib.hid (below_then HB2.out HB2.out.size hB3)
        have HR3 := Lib.hid (HR2.out.below hB3)
        have HQ3 := Lib.hid (hQ.mono HB2.out.size)
        have hX0 := val_nonneg HDX.out
        have hq0 : 0 ≤ val xs' / r ^ m := Int.ediv_nonneg hX0 (by have := HRM.out; omega)
        have hq1 : val xs' / r ^ m ≤ val xs' := Int.ediv_le_self _ hX0
        have HXL := Lib.hid (val_lt HDX.out)
        obtain ⟨q, hqd⟩ : ∃ q, q = val xs' / r ^ m := ⟨_, rfl⟩
        rw [← hqd] at hq0 hq1 HQ3 ⊢
        have HQD := Lib.hid hqd
        have HQ1 := Lib.hid hq1
        -- bounds on lengths
        have hpl := pw_le (i := xs'.length) (j := 1000) (by omega)
        have hp2 : pw 1001 = 4294967296 * pw 1000 := pw_succ 1000
        have hp0 := pw_pos 1000
        have hrle := HRI.out.le
        have hmr : r * m ≤ r * 63 := Int.mul_le_mul_of_nonneg_left (by omega) hr0
        have hrm0 : 0 ≤ r * m := Int.mul_nonneg hr0 (by omega)
        have hl1 : (canon (r * m)).length ≤ 1001 := canon_length_le hrm0 (by rw [hp2]; omega)
        have hl2 : (canon q).length ≤ 1001 := canon_length_le hq0 (by rw [hp2]; have := HXL.out; omega)
        have hl3 : (canon (r * m + q)).length ≤ 1001 := canon_length_le (by omega) (by rw [hp2]; have := HXL.out; omega)
        have HL1 := Lib.hid hl1
        have HL2 := Lib.hid hl2
        have HL3 := Lib.hid hl3
        have HMR := Lib.hid hrm0
        clear hQ hQ' hB3 hqd hq1 hpl hp2 hp0 hrle hmr hl1 hl2 hl3 HR2 HO2 hrm0 hX0
        go_wp2_with fail
        refine (mul_calls R _ kr _ _ _ (canon r) [(m : Int)] _ (HR3.out.alloc _).rd (Own.lit1 w3 w3.heap.size (Nat.le_refl _) m).rd rfl rfl (canon_dg _) (Dg.cons (by omega) (by omega) Dg.nil) (by have := HRL.out; omega) (by simp)).mono ?_
        rintro e w4 ⟨M, km, rfl, hM, hB4⟩
        rw [canon_val hr0, val_one] at hM ⊢
        have HB4 := Lib.hid (below_then (HB3.out.alloc HB3.out.size (.cells #[.int .u32 (m : Int)] 53)) (by have := HB3.out.size; simp; omega) hB4)
        have HR4 := Lib.hid ((HR3.out.alloc _).below hB4)
        have HQ4 := Lib.hid ((HQ3.out.alloc _).below hB4)
        have HM4 := Lib.hid hM
        clear hM hB4 HR3 HQ3
        go_wp2_with fail
        refine (add_calls M Q km kq _ _ (canon (r * m)) (canon q) _ HM4.out.rd HQ4.out.rd rfl rfl (canon_dg _) (canon_dg _) (by have := HL1.out; omega) (by have := HL2.out; omega)).mono ?_
        rintro e w5 ⟨S, ks, rfl, hS, hB5⟩
        rw [canon_val HMR.out, canon_val hq0] at hS ⊢
        have HB5 := Lib.hid (below_then HB4.out HB4.out.size hB5)
        have HR5 := Lib.hid (HR4.out.below hB5)
        have HS5 := Lib.hid hS
        clear hS hB5 HR4 HQ4 HM4
        go_wp2_with fail
        refine (divide_calls S _ ks _ _ _ (canon (r * m + q)) [(n : Int)] _ (HS5.out.alloc _).rd (Own.lit1 w5 w5.heap.size (Nat.le_refl _) n).rd rfl rfl (canon_dg _) (Dg.cons (by omega) (by omega) Dg.nil) (canon_nm _) (by intro _; simp; omega) (by simp) (by have := HL3.out; omega)).mono ?_
        rintro e w6 ⟨T, kt, T', kt', rfl, hT, hT', hB6⟩
        have hs0 : 0 ≤ r * m + q := by have := HMR.out; omega
        rw [canon_val hs0, val_one] at hT hT' ⊢
        have HB6 := Lib.hid (below_then (HB5.out.alloc HB5.out.size (.cells #[.int .u32 (n : Int)] 53)) (by have := HB5.out.size; simp; omega) hB6)
        have HR6 := Lib.hid ((HR5.out.alloc _).below hB6)
        have HT6 := Lib.hid (hT.mono (base' := w.heap.size) (by have := HB5.out.size; simp; omega))
        have ht0 : 0 ≤ (r * m + q) / (n : Int) := Int.ediv_nonneg hs0 (by omega)
        have hte : (r * m + q) / (n : Int) = (m * r + val xs' / r ^ m) / ((m : Int) + 1) := by
          rw [HQD.out, Int.mul_comm r, HM.out]; rfl
        obtain ⟨t, htd⟩ : ∃ t, t = (r * m + q) / (n : Int) := ⟨_, rfl⟩
        rw [← htd] at ht0 hte HT6 ⊢
        have HTE := Lib.hid hte
        clear hT hT' hB6 HR5 HS5 htd hte hs0
        go_wp2_with fail
        refine (compare_calls T R kt kr _ _ (canon t) (canon r) _ HT6.out.rd HR6.out.rd (canon_dg _) (canon_dg _) rfl rfl).mono ?_
        rintro e w7 ⟨rfl, ⟨nd, rfl⟩⟩
        rw [canon_val ht0, canon_val hr0]
        by_cases hge : r ≤ t
        · have hb : decide (0 ≤ cmpI t r) = true := by
            rcases Int.lt_or_eq_of_le hge with h | h
            · rw [cmpI_gt h]; rfl
            · rw [h, cmpI_eq]; rfl
          have hdone : IsRoot (val xs') n r := by
            have h1 := HRI.out
            have h2 := HTE.out
            rw [HM.out] at h1 ⊢
            exact h1.done (by omega)
          have HD := Lib.hid hdone
          clear hdone hge
          go_wp2_with fail
          go_ret2
          exact ⟨r, HD.out, OutE.mk' rfl (HR6.out.drewN _) (pw_below_drewN HB6.out _)⟩
        · have hb : decide (0 ≤ cmpI t r) = false := by rw [cmpI_lt (by omega)]; rfl
          have hnext : RootInv (val xs') n xs'.length t := by
            have h1 := HRI.out
            have h2 := HTE.out
            have h3 := HXP.out
            rw [HM.out] at h1 ⊢
            rw [h2]
            exact h1.next (by omega) (by omega)
          have HNE := Lib.hid hnext
          clear hnext
          go_wp2_with fail
          go_roundg gk
          case measure => omega
          case rel => exact ⟨T, kt, t, rfl, by show _ ≤ _; have := HKQ.out; omega, HNE, HT6.out.drewN _, pw_below_drewN HB6.out _⟩
end Go.Proofs.Ytcmiciloiicfoaa
