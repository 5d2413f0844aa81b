/- Plain arithmetic of one step of long division (Knuth's algorithm D): the guess of a digit, its correction, the subtraction and the adding back. No program is in sight. -/
import Derived.Test.YtcmiciloiicfoaaVal
namespace Go.Proofs.Ytcmiciloiicfoaa

theorem top2 {xs : List Int} {n : Nat} (hn : 2 ≤ n) (hl : xs.length = n) : val xs = val (xs.take (n - 2)) + pw (n - 2) * (gd xs (n - 2) + 4294967296 * gd xs (n - 1)) := by
  have e : val xs = val (xs.take n) := by rw [List.take_of_length_le (by omega)]
  obtain ⟨m, rfl⟩ : ∃ m, n = m + 2 := ⟨n - 2, by omega⟩
  rw [e, show m + 2 = (m + 1) + 1 from rfl, val_take_succ, val_take_succ, pw_succ]
  simp only [Nat.add_sub_cancel, show m + 1 + 1 - 2 = m from by omega]
  grind
theorem top3 {xs : List Int} {n : Nat} (hn : 2 ≤ n) (hl : xs.length = n + 1) : val xs = val (xs.take (n - 2)) + pw (n - 2) * (gd xs (n - 2) + 4294967296 * (gd xs n * 4294967296 + gd xs (n - 1))) := by
  have e : val xs = val (xs.take (n + 1)) := by rw [List.take_of_length_le (by omega)]
  obtain ⟨m, rfl⟩ : ∃ m, n = m + 2 := ⟨n - 2, by omega⟩
  rw [e, val_take_succ, show m + 2 = (m + 1) + 1 from rfl, val_take_succ, val_take_succ, pw_succ (m + 1), pw_succ m]
  simp only [Nat.add_sub_cancel, show m + 1 + 1 - 2 = m from by omega]
  generalize val (xs.take m) = a
  generalize gd xs (m + 1 + 1) = x
  generalize gd xs (m + 1) = y
  generalize gd xs m = z
  grind

/-- What is given: U has one digit more than V, V two at least, the highest not 0, and the quotient is a digit. -/
structure Div1 (U V : List Int) : Prop where
  dU : Dg U
  dV : Dg V
  two : 2 ≤ V.length
  len : U.length = V.length + 1
  top : gd V (V.length - 1) ≠ 0
  lt : val U < 4294967296 * val V
theorem Div1.pos {U V : List Int} (h : Div1 U V) : 0 < gd V (V.length - 1) ∧ pw (V.length - 1) ≤ val V := by
  have a := h.dV.gd (V.length - 1)
  have := h.top
  exact ⟨by omega, nm_pos h.dV (fun _ => h.top) (by have := h.two; omega)⟩
theorem Div1.vpos {U V : List Int} (h : Div1 U V) : 0 < val V := by
  have := h.pos.2
  have := pw_pos (V.length - 1)
  omega
/-- The guess q with its rest r of the two highest digits. -/
structure Guess (U V : List Int) (q r : Int) : Prop where
  q0 : 0 ≤ q
  r0 : 0 ≤ r
  eq : q * gd V (V.length - 1) + r = gd U V.length * 4294967296 + gd U (V.length - 1)
  ge : val U / val V ≤ q
theorem Guess.init {U V : List Int} (h : Div1 U V) :
    Guess U V ((gd U V.length * 4294967296 + gd U (V.length - 1)) / gd V (V.length - 1)) ((gd U V.length * 4294967296 + gd U (V.length - 1)) % gd V (V.length - 1)) := by
  have hp := h.pos.1
  have a := h.dU.gd V.length
  have b := h.dU.gd (V.length - 1)
  have t0 : 0 ≤ gd U V.length * 4294967296 + gd U (V.length - 1) := by omega
  refine ⟨Int.ediv_nonneg t0 (by omega), Int.emod_nonneg _ (by omega), ?_, ?_⟩
  · have := Int.mul_ediv_add_emod (gd U V.length * 4294967296 + gd U (V.length - 1)) (gd V (V.length - 1))
    rw [Int.mul_comm] at this; exact this
  · have hU := top3 h.two h.len
    have hV := top2 h.two rfl
    have c := h.dU.gd (V.length - 2)
    have d := h.dV.gd (V.length - 2)
    have e := val_lt (h.dU.take (V.length - 2))
    have f := val_nonneg (h.dV.take (V.length - 2))
    rw [List.length_take, Nat.min_eq_left (by have := h.len; omega)] at e
    have hpw := pw_pos (V.length - 2)
    have hvp := h.vpos
    rw [Int.le_ediv_iff_mul_le hp]
    -- Q * v1 < top + 1
    have hQ := Int.ediv_mul_le (val U) (show val V ≠ 0 by omega)
    have hU0 := val_nonneg h.dU
    have hQ0 : 0 ≤ val U / val V := Int.ediv_nonneg hU0 (by omega)
    generalize val U / val V = Q at *
    generalize gd U V.length * 4294967296 + gd U (V.length - 1) = top at *
    generalize gd V (V.length - 1) = v1 at *
    generalize gd V (V.length - 2) = v2 at *
    generalize gd U (V.length - 2) = u2 at *
    generalize val (U.take (V.length - 2)) = x at *
    generalize val (V.take (V.length - 2)) = y at *
    generalize pw (V.length - 2) = p at *
    have hlow : Q * (p * (4294967296 * v1)) ≤ Q * val V := by
      apply Int.mul_le_mul_of_nonneg_left _ hQ0
      rw [hV]
      have : 0 ≤ p * v2 := Int.mul_nonneg (by omega) d.1
      grind
    have hup : val U < p * (4294967296 * (top + 1)) := by
      rw [hU]
      have : p * u2 ≤ p * 4294967295 := Int.mul_le_mul_of_nonneg_left (by omega) (by omega)
      have e3 : p * (u2 + 4294967296 * top) = p * u2 + 4294967296 * (p * top) := by grind
      have e4 : p * (4294967296 * (top + 1)) = 4294967296 * (p * top) + 4294967296 * p := by grind
      omega
    have hfin : p * (4294967296 * (Q * v1)) < p * (4294967296 * (top + 1)) := by
      have : Q * (p * (4294967296 * v1)) = p * (4294967296 * (Q * v1)) := by grind
      omega
    have := Int.lt_of_mul_lt_mul_left hfin (by omega)
    omega
theorem Guess.step {U V : List Int} {q r : Int} (h : Guess U V q r) (hd : Div1 U V) (hc : 4294967296 ≤ q ∨ r * 4294967296 + gd U (V.length - 2) < q * gd V (V.length - 2)) :
    Guess U V (q - 1) (r + gd V (V.length - 1)) := by
  have hp := hd.pos.1
  have hr := h.r0
  have c := hd.dU.gd (V.length - 2)
  have d := hd.dV.gd (V.length - 2)
  have hvp := hd.vpos
  have hgt : val U / val V < q := by
    rcases hc with hc | hc
    · have : val U / val V < 4294967296 := Int.ediv_lt_of_lt_mul hvp hd.lt
      omega
    · rw [Int.ediv_lt_iff_lt_mul hvp]
      have hU := top3 hd.two hd.len
      have hV := top2 hd.two rfl
      have e := val_lt (hd.dU.take (V.length - 2))
      have f := val_nonneg (hd.dV.take (V.length - 2))
      rw [List.length_take, Nat.min_eq_left (by have := hd.len; omega)] at e
      have hpw := pw_pos (V.length - 2)
      have heq := h.eq
      have hq0 := h.q0
      rw [hU, hV]
      generalize gd U V.length * 4294967296 + gd U (V.length - 1) = top at *
      generalize gd V (V.length - 1) = v1 at *
      generalize gd V (V.length - 2) = v2 at *
      generalize gd U (V.length - 2) = u2 at *
      generalize val (U.take (V.length - 2)) = x at *
      generalize val (V.take (V.length - 2)) = y at *
      generalize pw (V.length - 2) = p at *
      have h1 : p * (r * 4294967296 + u2 + 1) ≤ p * (q * v2) := Int.mul_le_mul_of_nonneg_left (by omega) (by omega)
      have h2 : 0 ≤ q * y := Int.mul_nonneg hq0 f
      have h3 : p * (u2 + 4294967296 * top) + p = p * (r * 4294967296 + u2 + 1) + p * (4294967296 * (q * v1)) := by
        rw [← heq]; grind
      have h4 : q * (y + p * (v2 + 4294967296 * v1)) = q * y + p * (q * v2) + p * (4294967296 * (q * v1)) := by grind
      omega
  refine ⟨?_, by omega, ?_, by omega⟩
  · have := Int.ediv_nonneg (val_nonneg hd.dU) (show 0 ≤ val V by omega)
    omega
  · have := h.eq
    grind
theorem Guess.q_lt {U V : List Int} {q r : Int} (h : Guess U V q r) (hd : Div1 U V) (hr : 4294967296 ≤ r) : q < 4294967296 := by
  have hp := hd.pos.1
  have heq := h.eq
  have a := hd.dU.gd V.length
  have b := hd.dU.gd (V.length - 1)
  -- the highest digit of U is at most that of V
  have hle : gd U V.length ≤ gd V (V.length - 1) := by
    rcases Int.lt_or_le (gd V (V.length - 1)) (gd U V.length) with hlt | hle
    · exfalso
      have hU := top3 hd.two hd.len
      have hV := top2 hd.two rfl
      have c := hd.dU.gd (V.length - 2)
      have d := hd.dV.gd (V.length - 2)
      have e := val_nonneg (hd.dU.take (V.length - 2))
      have f := val_lt (hd.dV.take (V.length - 2))
      rw [List.length_take, Nat.min_eq_left (by omega)] at f
      have hpw := pw_pos (V.length - 2)
      have hl := hd.lt
      rw [hU, hV] at hl
      generalize gd V (V.length - 1) = v1 at *
      generalize gd U V.length = u0 at *
      generalize gd U (V.length - 1) = u1 at *
      generalize gd V (V.length - 2) = v2 at *
      generalize gd U (V.length - 2) = u2 at *
      generalize val (U.take (V.length - 2)) = x at *
      generalize val (V.take (V.length - 2)) = y at *
      generalize pw (V.length - 2) = p at *
      have h1 : p * (v2 + 4294967296 * v1 + 1) ≤ p * (4294967296 * (v1 + 1)) := Int.mul_le_mul_of_nonneg_left (by omega) (by omega)
      have h2 : p * (4294967296 * (4294967296 * (v1 + 1))) ≤ p * (u2 + 4294967296 * (u0 * 4294967296 + u1)) := Int.mul_le_mul_of_nonneg_left (by omega) (by omega)
      have h3 : p * (v2 + 4294967296 * v1 + 1) = p * (v2 + 4294967296 * v1) + p := by grind
      have h4 : p * (4294967296 * (4294967296 * (v1 + 1))) = 4294967296 * (p * (4294967296 * (v1 + 1))) := by grind
      omega
    · exact hle
  generalize gd V (V.length - 1) = v1 at *
  have : q * v1 < 4294967296 * v1 := by omega
  exact Int.lt_of_mul_lt_mul_right this (by omega)
/-- The guess is good: at most one too great. -/
theorem Guess.good {U V : List Int} {q r : Int} (h : Guess U V q r) (hd : Div1 U V) (hq : q < 4294967296) (hc : q * gd V (V.length - 2) ≤ r * 4294967296 + gd U (V.length - 2) ∨ 4294967296 ≤ r) :
    q = val U / val V ∨ q = val U / val V + 1 := by
  have hp := hd.pos.1
  have c := hd.dU.gd (V.length - 2)
  have d := hd.dV.gd (V.length - 2)
  have hq0 := h.q0
  have hc' : q * gd V (V.length - 2) ≤ r * 4294967296 + gd U (V.length - 2) := by
    rcases hc with hc | hc
    · exact hc
    · have h1 := (show q * gd V (V.length - 2) ≤ 4294967295 * gd V (V.length - 2) from Int.mul_le_mul_of_nonneg_right (by omega) d.1)
      omega
  have hvp := hd.vpos
  have hU := top3 hd.two hd.len
  have hV := top2 hd.two rfl
  have e := val_nonneg (hd.dU.take (V.length - 2))
  have f := val_lt (hd.dV.take (V.length - 2))
  have f0 := val_nonneg (hd.dV.take (V.length - 2))
  rw [List.length_take, Nat.min_eq_left (by omega)] at f
  have hpw := pw_pos (V.length - 2)
  have heq := h.eq
  have hge := h.ge
  have key : q * val V < val U + val V := by
    rw [hU, hV]
    generalize gd U V.length * 4294967296 + gd U (V.length - 1) = top at *
    generalize gd V (V.length - 1) = v1 at *
    generalize gd V (V.length - 2) = v2 at *
    generalize gd U (V.length - 2) = u2 at *
    generalize val (U.take (V.length - 2)) = x at *
    generalize val (V.take (V.length - 2)) = y at *
    generalize pw (V.length - 2) = p at *
    have h1 : p * (q * v2) ≤ p * (r * 4294967296 + u2) := Int.mul_le_mul_of_nonneg_left hc' (by omega)
    have h2 : q * y ≤ 4294967295 * y := Int.mul_le_mul_of_nonneg_right (by omega) f0
    have h3 : p * (u2 + 4294967296 * top) = p * (r * 4294967296 + u2) + p * (4294967296 * (q * v1)) := by rw [← heq]; grind
    have h4 : q * (y + p * (v2 + 4294967296 * v1)) = q * y + p * (q * v2) + p * (4294967296 * (q * v1)) := by grind
    have h5 : p * (4294967296 * 1) ≤ p * (v2 + 4294967296 * v1) := Int.mul_le_mul_of_nonneg_left (by omega) (by omega)
    have h6 : p * (4294967296 * 1) = 4294967296 * p := by grind
    omega
  have hq1 : q - 1 ≤ val U / val V := by
    rw [Int.le_ediv_iff_mul_le hvp]
    have : (q - 1) * val V = q * val V - val V := by grind
    omega
  omega

/-- The loop that multiplies and subtracts. -/
structure MulSub (U V : List Int) (q : Int) (i : Nat) (W : List Int) (c b : Int) : Prop where
  len : W.length = U.length
  dg : Dg W
  c0 : 0 ≤ c
  c1 : c ≤ 4294967295
  b0 : 0 ≤ b
  b1 : b ≤ 1
  eq : val (W.take i) + q * val (V.take i) = val (U.take i) + pw i * (c + b)
  hi : ∀ k, i ≤ k → gd W k = gd U k
theorem MulSub.init {U V : List Int} (q : Int) (h : Dg U) : MulSub U V q 0 U 0 0 :=
  ⟨rfl, h, by omega, by omega, by omega, by omega, by simp, fun _ _ => rfl⟩
theorem MulSub.step {U V : List Int} {q : Int} {i : Nat} {W : List Int} {c b t p : Int} (h : MulSub U V q i W c b) (hU : Dg U) (hV : Dg V) (hq0 : 0 ≤ q) (hq : q < 4294967296) (hi : i < U.length)
    (hp : p = q * gd V i + c) (ht : t = (gd W i - p % 4294967296 - b) % 18446744073709551616) :
    MulSub U V q (i + 1) (W.set i (t % 4294967296)) (p / 4294967296) (t / 9223372036854775808) := by
  have a := hU.gd i
  have d := hV.gd i
  have hw := h.hi i (Nat.le_refl _)
  have hl := h.len
  have := h.c0
  have := h.c1
  have := h.b0
  have := h.b1
  have he := h.eq
  have m0 : 0 ≤ q * gd V i := Int.mul_nonneg hq0 d.1
  have m1 : q * gd V i ≤ q * 4294967295 := Int.mul_le_mul_of_nonneg_left (by omega) hq0
  rw [hw] at ht
  obtain ⟨r, hr⟩ : ∃ r, r = t % 4294967296 := ⟨_, rfl⟩
  obtain ⟨z, hz⟩ : ∃ z, z = t / 9223372036854775808 := ⟨_, rfl⟩
  obtain ⟨y, hy⟩ : ∃ y, y = p / 4294967296 := ⟨_, rfl⟩
  rw [← hr, ← hz, ← hy]
  have e : r + p + b = gd U i + 4294967296 * y + 4294967296 * z := by omega
  refine ⟨by rw [List.length_set]; exact hl, h.dg.set _ (by omega) (by omega), by omega, by omega, by omega, by omega, ?_, fun k hk => ?_⟩
  · rw [val_take_succ, val_take_succ, val_take_succ, take_set_ge (Nat.le_refl i), gd_set (by omega), if_pos rfl, pw_succ]
    generalize pw i = P at *
    generalize val (W.take i) = A at *
    generalize val (V.take i) = B at *
    generalize val (U.take i) = C at *
    generalize gd U i = u at *
    generalize gd V i = v at *
    subst hp
    have e' : r = u + 4294967296 * y + 4294967296 * z - b - c - q * v := by omega
    clear hr hz hy ht
    subst e'
    grind
  · rw [gd_set_ne (by omega)]; exact h.hi k (by omega)
theorem MulSub.top {U V : List Int} {q : Int} {W : List Int} {c b t : Int} (h : MulSub U V q V.length W c b) (hU : Dg U) (hl : U.length = V.length + 1) (ht : t = (gd W V.length - c - b) % 18446744073709551616) :
    Dg (W.set V.length (t % 4294967296)) ∧ val (W.set V.length (t % 4294967296)) + q * val V = val U + pw (V.length + 1) * (t / 9223372036854775808) ∧ 0 ≤ t / 9223372036854775808 ∧ t / 9223372036854775808 ≤ 1 ∧ 0 ≤ t ∧ t < 18446744073709551616 := by
  have a := hU.gd V.length
  have hw := h.hi V.length (Nat.le_refl _)
  have hlw := h.len
  have := h.c0
  have := h.c1
  have := h.b0
  have := h.b1
  have he := h.eq
  rw [val_take_ge (Nat.le_refl _)] at he
  rw [hw] at ht
  obtain ⟨r, hr⟩ : ∃ r, r = t % 4294967296 := ⟨_, rfl⟩
  obtain ⟨z, hz⟩ : ∃ z, z = t / 9223372036854775808 := ⟨_, rfl⟩
  rw [← hr, ← hz]
  have e : r + c + b = gd U V.length + 4294967296 * z := by omega
  refine ⟨h.dg.set _ (by omega) (by omega), ?_, by omega, by omega, by omega, by omega⟩
  have e1 : W.set V.length r = (W.set V.length r).take (V.length + 1) := by rw [List.take_of_length_le]; simp; omega
  have e2 : val U = val (U.take (V.length + 1)) := by rw [List.take_of_length_le (by omega)]
  rw [e1, e2, val_take_succ, val_take_succ, take_set_ge (Nat.le_refl _), gd_set (by omega), if_pos rfl, pw_succ]
  generalize pw V.length = P at *
  generalize val (W.take V.length) = A at *
  generalize val V = B at *
  generalize val (U.take V.length) = C at *
  have e' : r = gd U V.length + 4294967296 * z - b - c := by omega
  clear hr hz ht
  subst e'
  grind
/-- No borrow is left: the guess was right, and what stands is the remainder. -/
theorem knuth_right {U V W : List Int} {q : Int} (hd : Div1 U V) (hg : q = val U / val V ∨ q = val U / val V + 1) (hw : Dg W) (he : val W + q * val V = val U) : q = val U / val V ∧ val W = val U % val V := by
  have hvp := hd.vpos
  have hn := val_nonneg hw
  have h1 := Int.emod_add_mul_ediv (val U) (val V)
  have h2 := Int.emod_lt_of_pos (val U) hvp
  rcases hg with rfl | rfl
  · refine ⟨rfl, ?_⟩
    rw [Int.mul_comm] at he; omega
  · exfalso
    have : (val U / val V + 1) * val V = val V * (val U / val V) + val V := by grind
    omega
/-- A borrow is left: the guess was one too great. -/
theorem knuth_wrong {U V W : List Int} {q : Int} (hd : Div1 U V) (hg : q = val U / val V ∨ q = val U / val V + 1) (hw : Dg W) (hl : W.length = V.length + 1) (he : val W + q * val V = val U + pw (V.length + 1)) : q - 1 = val U / val V ∧ val W + val V = val U % val V + pw (V.length + 1) := by
  have hvp := hd.vpos
  have hn := val_lt hw
  rw [hl] at hn
  have h1 := Int.emod_add_mul_ediv (val U) (val V)
  have h2 := Int.emod_nonneg (val U) (show val V ≠ 0 by omega)
  rcases hg with rfl | rfl
  · exfalso
    rw [Int.mul_comm] at he; omega
  · refine ⟨by omega, ?_⟩
    have : (val U / val V + 1) * val V = val V * (val U / val V) + val V := by grind
    omega

/-- The loop that adds back. -/
structure AddBack (W V : List Int) (i : Nat) (X : List Int) (c : Int) : Prop where
  len : X.length = W.length
  dg : Dg X
  c0 : 0 ≤ c
  c1 : c ≤ 1
  eq : val (X.take i) + pw i * c = val (W.take i) + val (V.take i)
  hi : ∀ k, i ≤ k → gd X k = gd W k
theorem AddBack.init {W : List Int} (V : List Int) (h : Dg W) : AddBack W V 0 W 0 :=
  ⟨rfl, h, by omega, by omega, by simp, fun _ _ => rfl⟩
theorem AddBack.step {W V : List Int} {i : Nat} {X : List Int} {c : Int} (h : AddBack W V i X c) (hW : Dg W) (hV : Dg V) (hi : i < W.length) :
    AddBack W V (i + 1) (X.set i ((gd X i + gd V i + c) % 4294967296)) ((gd X i + gd V i + c) / 4294967296) := by
  have a := hW.gd i
  have d := hV.gd i
  have hw := h.hi i (Nat.le_refl _)
  have hl := h.len
  have := h.c0
  have := h.c1
  have he := h.eq
  rw [hw]
  obtain ⟨t, ht⟩ : ∃ t, t = gd W i + gd V i + c := ⟨_, rfl⟩
  rw [← ht]
  obtain ⟨r, hr⟩ : ∃ r, r = t % 4294967296 := ⟨_, rfl⟩
  obtain ⟨z, hz⟩ : ∃ z, z = t / 4294967296 := ⟨_, rfl⟩
  rw [← hr, ← hz]
  refine ⟨by rw [List.length_set]; exact hl, h.dg.set _ (by omega) (by omega), by omega, by omega, ?_, fun k hk => ?_⟩
  · rw [val_take_succ, val_take_succ, val_take_succ, take_set_ge (Nat.le_refl i), gd_set (by omega), if_pos rfl, pw_succ]
    have e' : r = gd W i + gd V i + c - 4294967296 * z := by omega
    clear hr hz ht
    subst e'
    grind
  · rw [gd_set_ne (by omega)]; exact h.hi k (by omega)
theorem AddBack.final {W V : List Int} {X : List Int} {c R : Int} (h : AddBack W V V.length X c) (hW : Dg W) (hl : W.length = V.length + 1) (hR0 : 0 ≤ R) (hR : R < pw (V.length + 1)) (he : val W + val V = R + pw (V.length + 1)) :
    Dg (X.set V.length ((gd X V.length + c) % 4294967296)) ∧ val (X.set V.length ((gd X V.length + c) % 4294967296)) = R := by
  have a := hW.gd V.length
  have hw := h.hi V.length (Nat.le_refl _)
  have hlx := h.len
  have := h.c0
  have := h.c1
  have heq := h.eq
  rw [val_take_ge (Nat.le_refl _)] at heq
  rw [hw]
  obtain ⟨r, hr⟩ : ∃ r, r = (gd W V.length + c) % 4294967296 := ⟨_, rfl⟩
  obtain ⟨z, hz⟩ : ∃ z, z = (gd W V.length + c) / 4294967296 := ⟨_, rfl⟩
  rw [← hr]
  have hdg : Dg (X.set V.length r) := h.dg.set _ (by omega) (by omega)
  refine ⟨hdg, ?_⟩
  have hn := val_nonneg hdg
  have hlt := val_lt hdg
  rw [List.length_set, hlx, hl] at hlt
  have e1 : X.set V.length r = (X.set V.length r).take (V.length + 1) := by rw [List.take_of_length_le]; simp; omega
  have e2 : val W = val (W.take (V.length + 1)) := by rw [List.take_of_length_le (by omega)]
  have e3 : val (X.set V.length r) + pw (V.length + 1) * z = val W + val V := by
    rw [e1, e2, val_take_succ, val_take_succ, take_set_ge (Nat.le_refl _), gd_set (by omega), if_pos rfl, pw_succ]
    have e' : r = gd W V.length + c - 4294967296 * z := by omega
    clear hr hz e1 hdg hn hlt
    subst e'
    grind
  have hpw := pw_pos (V.length + 1)
  have hz01 : z = 0 ∨ z = 1 := by omega
  rcases hz01 with h0 | h1
  · rw [h0, Int.mul_zero] at e3; omega
  · rw [h1, Int.mul_one] at e3; omega
end Go.Proofs.Ytcmiciloiicfoaa
