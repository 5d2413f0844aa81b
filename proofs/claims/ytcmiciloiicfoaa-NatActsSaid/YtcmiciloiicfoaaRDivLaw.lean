/- Plain arithmetic for the reference's long division: the steps of YtcmiciloiicfoaaKnuth with a borrow that is compared. -/
import Derived.Test.YtcmiciloiicfoaaDivMod
namespace Go.Proofs.Ytcmiciloiicfoaa

theorem MulSub.step' {U V : List Int} {q : Int} {i : Nat} {W : List Int} {c b p r z : Int} (h : MulSub U V q i W c b) (hU : Dg U) (hV : Dg V) (hq0 : 0 ≤ q) (hq : q < 4294967296) (hi : i < U.length)
    (hp : p = c + q * gd V i) (e : r + (p % 4294967296 + b) = gd W i + 4294967296 * z) (r0 : 0 ≤ r) (r1 : r < 4294967296) (z0 : 0 ≤ z) (z1 : z ≤ 1) :
    MulSub U V q (i + 1) (W.set i r) (p / 4294967296) z := by
  have a := hU.gd i
  have d := hV.gd i
  have hw := h.hi i (Nat.le_refl _)
  have hl := h.len
  have := h.c0
  have := h.c1
  have he := h.eq
  have m0 : 0 ≤ q * gd V i := Int.mul_nonneg hq0 d.1
  have m1 : q * gd V i ≤ q * 4294967295 := Int.mul_le_mul_of_nonneg_left (by omega) hq0
  rw [hw] at e
  obtain ⟨y, hy⟩ : ∃ y, y = p / 4294967296 := ⟨_, rfl⟩
  rw [← hy]
  refine ⟨by rw [List.length_set]; exact hl, h.dg.set _ r0 r1, by omega, by omega, z0, z1, ?_, fun k hk => ?_⟩
  · rw [val_take_succ, val_take_succ, val_take_succ, take_set_ge (Nat.le_refl i), gd_set (by omega), if_pos rfl, pw_succ]
    generalize pw i = P at *
    generalize val (W.take i) = A at *
    generalize val (V.take i) = B at *
    generalize val (U.take i) = C at *
    generalize gd U i = u at *
    generalize gd V i = v at *
    have e' : r = u + 4294967296 * y + 4294967296 * z - b - c - q * v := by omega
    clear hy e hp
    subst e'
    grind
  · rw [gd_set_ne (by omega)]; exact h.hi k (by omega)
theorem MulSub.top' {U V : List Int} {q : Int} {W : List Int} {c b r z : Int} (h : MulSub U V q V.length W c b) (hl : U.length = V.length + 1) (e : r + (c + b) = gd W V.length + 4294967296 * z) (r0 : 0 ≤ r) (r1 : r < 4294967296) :
    Dg (W.set V.length r) ∧ val (W.set V.length r) + q * val V = val U + pw (V.length + 1) * z := by
  have hw := h.hi V.length (Nat.le_refl _)
  have hlw := h.len
  have he := h.eq
  rw [val_take_ge (Nat.le_refl _)] at he
  rw [hw] at e
  refine ⟨h.dg.set _ r0 r1, ?_⟩
  have e1 : W.set V.length r = (W.set V.length r).take (V.length + 1) := by rw [List.take_of_length_le]; simp; omega
  have e2 : val U = val (U.take (V.length + 1)) := by rw [List.take_of_length_le (by omega)]
  rw [e1, e2, val_take_succ, val_take_succ, take_set_ge (Nat.le_refl _), gd_set (by omega), if_pos rfl, pw_succ]
  generalize pw V.length = P at *
  generalize val (W.take V.length) = A at *
  generalize val V = B at *
  generalize val (U.take V.length) = C at *
  have e' : r = gd U V.length + 4294967296 * z - b - c := by omega
  clear e
  subst e'
  grind
theorem AddBack.step' {W V : List Int} {i : Nat} {X : List Int} {c t : Int} (h : AddBack W V i X c) (hW : Dg W) (hV : Dg V) (hi : i < W.length) (ht : t = c + (gd X i + gd V i)) :
    AddBack W V (i + 1) (X.set i (t % 4294967296)) (t / 4294967296) := by
  have e : t = gd X i + gd V i + c := by omega
  rw [e]
  exact h.step hW hV hi

/-- What the reference starts its long division with: the dividend and the divisor shifted, a zero behind the dividend. -/
structure RNorm (xs ys : List Int) (s : Int) (U V : List Int) : Prop where
  s0 : 0 ≤ s
  s1 : s ≤ 31
  ulen : xs.length + 1 ≤ U.length
  ulen2 : U.length ≤ xs.length + 2
  vlen : V.length = ys.length
  udg : Dg U
  vdg : Dg V
  uval : val U = (2 : Int) ^ s.toNat * val xs
  vval : val V = (2 : Int) ^ s.toNat * val ys
  vtop : gd V (V.length - 1) ≠ 0
  vpos : 0 < val V
  d : val (U.drop (U.length - V.length)) < val V
theorem canon_len_ge {n : Nat} {v : Int} (h : pw n ≤ v) : n + 1 ≤ (canon v).length := by
  have hp := pw_pos n
  have h1 := val_lt (canon_dg v)
  rw [canon_val (by omega)] at h1
  rcases Nat.lt_or_ge n (canon v).length with hl | hl
  · omega
  · have := pw_le hl; omega
theorem RNorm.of {xs ys : List Int} (dx : Dg xs) (dy : Dg ys) (nx : Nm xs) (ny : Nm ys) (hl : 1 ≤ ys.length) (hle : ys.length ≤ xs.length) {s : Int} (hs : s = 32 - bl (gd ys (ys.length - 1))) :
    RNorm xs ys s (canon ((2 : Int) ^ s.toNat * val xs) ++ [0]) (canon ((2 : Int) ^ s.toNat * val ys)) := by
  subst hs
  have hN := Norm.of dx dy ny hl hle
  generalize 32 - (bl (gd ys (ys.length - 1)) : Int) = s at *
  have hP := Pow2.of s hN.s0 hN.s1
  have p0 := hP.p0
  have hu := hN.u
  have hv := hN.v
  have s0 := hN.s0
  have s1 := hN.s1
  clear hN
  generalize hPe : (2 : Int) ^ s.toNat = P at *
  have hx := nm_pos dx nx (by omega)
  have hy := nm_pos dy ny (by omega)
  have px := pw_pos (xs.length - 1)
  have py := pw_pos (ys.length - 1)
  have hx1 : 1 * val xs ≤ P * val xs := Int.mul_le_mul_of_nonneg_right p0 (by omega)
  have hy1 : 1 * val ys ≤ P * val ys := Int.mul_le_mul_of_nonneg_right p0 (by omega)
  have lu1 := canon_len_ge (n := xs.length - 1) (v := P * val xs) (by omega)
  have lv1 := canon_len_ge (n := ys.length - 1) (v := P * val ys) (by omega)
  have lu2 := canon_length_le (show 0 ≤ P * val xs by omega) hu
  have lv2 := canon_length_le (show 0 ≤ P * val ys by omega) hv
  have hlv : (canon (P * val ys)).length = ys.length := by omega
  have dv := canon_dg (P * val ys)
  have nv := canon_nm (P * val ys)
  have vv := canon_val (show 0 ≤ P * val ys by omega)
  have vu := canon_val (show 0 ≤ P * val xs by omega)
  have du := canon_dg (P * val xs)
  have hvp := nm_pos dv nv (by omega)
  generalize canon (P * val ys) = V at *
  generalize canon (P * val xs) = U at *
  have d0 : Dg [(0 : Int)] := Dg.cons (by omega) (by omega) Dg.nil
  refine ⟨s0, s1, by simp; omega, by simp; omega, hlv, du.append d0, dv, by rw [hPe, val_append, vu]; simp, by rw [hPe]; exact vv, nv (by omega), by omega, ?_⟩
  have hd : (U ++ [0]).drop ((U ++ [0]).length - V.length) = U.drop (U.length + 1 - V.length) ++ [0] := by
    rw [List.length_append, List.length_singleton, List.drop_append_of_le_length (by omega)]
  rw [hd, val_append]
  have h1 := val_lt (du.drop (U.length + 1 - V.length))
  rw [List.length_drop, show U.length - (U.length + 1 - V.length) = V.length - 1 from by omega] at h1
  simp
  omega
end Go.Proofs.Ytcmiciloiicfoaa
