/- Plain arithmetic of long division: by one digit, and by the steps of YtcmiciloiicfoaaKnuth. -/
import Derived.Test.YtcmiciloiicfoaaLower
import Derived.Test.YtcmiciloiicfoaaKnuth
namespace Go.Proofs.Ytcmiciloiicfoaa

theorem val_drop {xs : List Int} {k : Nat} (h : k < xs.length) : val (xs.drop k) = gd xs k + 4294967296 * val (xs.drop (k + 1)) := by
  rw [drop_cons h, val_cons]
theorem drop_set_lt {xs : List Int} {k j : Nat} {x : Int} (h : j < k) : (xs.set j x).drop k = xs.drop k := by
  rw [List.drop_set_of_lt h]

/-- Division by one digit: the digits of the quotient from k on stand. -/
structure OneInv (xs : List Int) (y : Int) (k : Nat) (s : List Int) (rest : Int) : Prop where
  len : s.length = xs.length
  dg : Dg s
  r0 : 0 ≤ rest
  r1 : rest < y
  eq : val (s.drop k) * y + rest = val (xs.drop k)
theorem OneInv.init {xs : List Int} {y : Int} (hy : 0 < y) : OneInv xs y xs.length (List.replicate xs.length 0) 0 :=
  ⟨by simp, Dg.replicate _, by omega, hy, by simp⟩
theorem OneInv.step {xs : List Int} {y : Int} {k : Nat} {s : List Int} {rest : Int} (h : OneInv xs y (k + 1) s rest) (hx : Dg xs) (hk : k < xs.length) (hy : y < 4294967296) :
    OneInv xs y k (s.set k ((rest * 4294967296 + gd xs k) / y)) ((rest * 4294967296 + gd xs k) % y) ∧ 0 ≤ (rest * 4294967296 + gd xs k) / y ∧ (rest * 4294967296 + gd xs k) / y < 4294967296 := by
  have a := hx.gd k
  have h0 := h.r0
  have h1 := h.r1
  have hl := h.len
  have he := h.eq
  have hypos : 0 < y := by omega
  have t0 : 0 ≤ rest * 4294967296 + gd xs k := by omega
  have q0 : 0 ≤ (rest * 4294967296 + gd xs k) / y := Int.ediv_nonneg t0 (by omega)
  have q1 : (rest * 4294967296 + gd xs k) / y < 4294967296 := by
    apply Int.ediv_lt_of_lt_mul hypos
    omega
  refine ⟨⟨by rw [List.length_set]; exact hl, h.dg.set _ q0 q1, Int.emod_nonneg _ (by omega), Int.emod_lt_of_pos _ hypos, ?_⟩, q0, q1⟩
  rw [val_drop hk, val_drop (xs := s.set k _) (by rw [List.length_set]; omega), drop_set_lt (by omega), gd_set (by omega), if_pos rfl, ← he]
  have e := Int.mul_ediv_add_emod (rest * 4294967296 + gd xs k) y
  generalize (rest * 4294967296 + gd xs k) / y = q at *
  generalize (rest * 4294967296 + gd xs k) % y = r at *
  grind
theorem OneInv.final {xs : List Int} {y : Int} {s : List Int} {rest : Int} (h : OneInv xs y 0 s rest) (hx : Dg xs) : val s = val xs / y ∧ rest = val xs % y := by
  have he := h.eq
  have h0 := h.r0
  have h1 := h.r1
  rw [List.drop_zero, List.drop_zero] at he
  have e1 : val xs / y = val s := by
    rw [← he, Int.mul_comm, Int.add_comm, Int.add_mul_ediv_left _ _ (by omega), Int.ediv_eq_zero_of_lt h0 h1]; omega
  have e2 : val xs % y = rest := by
    rw [← he, Int.mul_comm, Int.add_comm, Int.add_mul_emod_self_left, Int.emod_eq_of_lt h0 h1]
  exact ⟨e1.symm, e2.symm⟩

/-- Long division of U0 by V: the digits of the quotient from k on stand, and what is left of the dividend's digits from k on is less than V. -/
structure LongInv (U0 V : List Int) (m k : Nat) (s U : List Int) : Prop where
  slen : s.length = m
  sdg : Dg s
  ulen : U.length = U0.length
  udg : Dg U
  low : U.take k = U0.take k
  lt : val (U.drop k) < val V
  eq : val (s.drop k) * val V + val (U.drop k) = val (U0.drop k)
theorem LongInv.init {U0 V : List Int} {m : Nat} (hU : Dg U0) (hlt : val (U0.drop m) < val V) : LongInv U0 V m m (List.replicate m 0) U0 :=
  ⟨by simp, Dg.replicate _, rfl, hU, rfl, hlt, by simp⟩
/-- What a step finds: the window of n + 1 digits. -/
theorem LongInv.window {U0 V : List Int} {m j : Nat} {s U : List Int} (h : LongInv U0 V m (j + 1) s U) (hV : Dg V) (hjm : j + V.length + 1 ≤ U0.length) :
    val (U.drop j) < 4294967296 * val V ∧ val ((U.drop j).take (V.length + 1)) = val (U.drop j) ∧ val (U.drop (j + V.length + 1)) = 0 ∧ Dg ((U.drop j).take (V.length + 1)) ∧ ((U.drop j).take (V.length + 1)).length = V.length + 1 := by
  have hul := h.ulen
  have hd := h.udg.gd j
  have hlt := h.lt
  have e := val_drop (xs := U) (k := j) (by omega)
  have h1 : val (U.drop j) < 4294967296 * val V := by omega
  have hvl := val_lt hV
  have hsplit := val_take_drop (U.drop j) (V.length + 1) (by rw [List.length_drop]; omega)
  rw [List.drop_drop, show j + (V.length + 1) = j + V.length + 1 from by omega] at hsplit
  have hn := val_nonneg (h.udg.drop (j + V.length + 1))
  have hw := val_nonneg ((h.udg.drop j).take (V.length + 1))
  have hz : val (U.drop (j + V.length + 1)) = 0 := by
    rcases Int.lt_or_le 0 (val (U.drop (j + V.length + 1))) with hp | hp
    · have : pw (V.length + 1) * 1 ≤ pw (V.length + 1) * val (U.drop (j + V.length + 1)) := Int.mul_le_mul_of_nonneg_left (by omega) (Int.le_of_lt (pw_pos _))
      rw [pw_succ] at this hsplit
      omega
    · omega
  refine ⟨h1, ?_, hz, (h.udg.drop j).take _, ?_⟩
  · rw [hz] at hsplit; omega
  · rw [List.length_take, List.length_drop]; omega
theorem LongInv.step {U0 V : List Int} {m j : Nat} {s U : List Int} (h : LongInv U0 V m (j + 1) s U) (hV : Dg V) (hvp : 0 < val V) (hU0 : Dg U0) (hjm : j + V.length + 1 ≤ U0.length) (hj : j < m) :
    LongInv U0 V m j (s.set j (val ((U.drop j).take (V.length + 1)) / val V))
      (U.take j ++ (digs (V.length + 1) (val ((U.drop j).take (V.length + 1)) % val V) ++ U.drop (j + V.length + 1))) ∧
    0 ≤ val ((U.drop j).take (V.length + 1)) / val V ∧ val ((U.drop j).take (V.length + 1)) / val V < 4294967296 := by
  obtain ⟨h1, h2, h3, h4, h5⟩ := h.window hV hjm
  have hul := h.ulen
  have hn := val_nonneg h4
  have hlow := h.low
  have heq := h.eq
  have hd := h.udg.gd j
  have e := val_drop (xs := U) (k := j) (by omega)
  have e0 := val_drop (xs := U0) (k := j) (by omega)
  have hg : gd U j = gd U0 j := by
    have := congrArg (fun l => gd l j) hlow
    simp only [gd_take (Nat.lt_succ_self j)] at this
    exact this
  obtain ⟨W, hW⟩ : ∃ W, W = (U.drop j).take (V.length + 1) := ⟨_, rfl⟩
  rw [← hW] at h2 h4 h5 hn ⊢
  have q0 : 0 ≤ val W / val V := Int.ediv_nonneg hn (by omega)
  have q1 : val W / val V < 4294967296 := Int.ediv_lt_of_lt_mul hvp (by omega)
  have r0 := Int.emod_nonneg (val W) (show val V ≠ 0 by omega)
  have r1 := Int.emod_lt_of_pos (val W) hvp
  have hvl := val_lt hV
  have hpl := pw_le (i := V.length) (j := V.length + 1) (by omega)
  have hdv : val (digs (V.length + 1) (val W % val V)) = val W % val V := digs_val r0 (by omega)
  have hlj : (U.take j).length = j := by rw [List.length_take]; omega
  have hdrop : (U.take j ++ (digs (V.length + 1) (val W % val V) ++ U.drop (j + V.length + 1))).drop j = digs (V.length + 1) (val W % val V) ++ U.drop (j + V.length + 1) := by
    have := List.drop_left (l₁ := U.take j) (l₂ := digs (V.length + 1) (val W % val V) ++ U.drop (j + V.length + 1))
    rwa [hlj] at this
  have hval : val (digs (V.length + 1) (val W % val V) ++ U.drop (j + V.length + 1)) = val W % val V := by
    rw [val_append, hdv, h3]; simp
  refine ⟨⟨by rw [List.length_set]; exact h.slen, h.sdg.set _ q0 q1, ?_, (h.udg.take j).append ((digs_dg _ _).append (h.udg.drop _)), ?_, ?_, ?_⟩, q0, q1⟩
  · simp [digs_length]; omega
  · have := List.take_left (l₁ := U.take j) (l₂ := digs (V.length + 1) (val W % val V) ++ U.drop (j + V.length + 1))
    rw [hlj] at this
    rw [this]
    have := congrArg (List.take j) hlow
    rw [List.take_take, List.take_take, Nat.min_eq_left (by omega)] at this
    exact this
  · rw [hdrop, hval]; exact r1
  · rw [hdrop, hval, val_drop (xs := s.set j _) (by rw [List.length_set, h.slen]; exact hj), drop_set_lt (by omega), gd_set (by rw [h.slen]; exact hj), if_pos rfl, e0, ← heq, ← hg]
    have em := Int.mul_ediv_add_emod (val W) (val V)
    generalize val W / val V = q at *
    generalize val W % val V = r at *
    rw [h2, e] at em
    generalize val (U.drop (j + 1)) = a at *
    generalize val (s.drop (j + 1)) = b at *
    grind
theorem LongInv.final {U0 V : List Int} {m : Nat} {s U : List Int} (h : LongInv U0 V m 0 s U) : val s = val U0 / val V ∧ val U = val U0 % val V := by
  have he := h.eq
  have hl := h.lt
  rw [List.drop_zero] at hl
  rw [List.drop_zero, List.drop_zero, List.drop_zero] at he
  have h0 := val_nonneg h.udg
  constructor
  · rw [← he, Int.mul_comm, Int.add_comm, Int.add_mul_ediv_left _ _ (by omega), Int.ediv_eq_zero_of_lt h0 hl]; omega
  · rw [← he, Int.mul_comm, Int.add_comm, Int.add_mul_emod_self_left, Int.emod_eq_of_lt h0 hl]
end Go.Proofs.Ytcmiciloiicfoaa
