/- nat.Mul: the product. -/
import Derived.Test.YtcmiciloiicfoaaSub
namespace Go.Proofs.Ytcmiciloiicfoaa
open Go.RowKit Go.Proofs.YtcmiciloiicfoaaW.PrintWords
/-- The outer loop: i digits of xs are multiplied. -/
structure MulInv (xs ys : List Int) (i : Nat) (s : List Int) : Prop where
  len : s.length = xs.length + ys.length
  dg : Dg s
  eq : val s = val (xs.take i) * val ys
  hi : ∀ j, i + ys.length ≤ j → gd s j = 0
/-- The inner loop: j digits of ys are multiplied by digit i of xs. -/
structure MulRow (xs ys s0 : List Int) (i j : Nat) (s : List Int) (c : Int) : Prop where
  len : s.length = xs.length + ys.length
  dg : Dg s
  c0 : 0 ≤ c
  c1 : c ≤ 4294967295
  eq : val s + pw (i + j) * c = val s0 + pw i * gd xs i * val (ys.take j)
  hi : ∀ k, i + j ≤ k → gd s k = gd s0 k
theorem MulInv.init (xs ys : List Int) : MulInv xs ys 0 (List.replicate (xs.length + ys.length) 0) :=
  ⟨by simp, Dg.replicate _, by simp [val_replicate], fun j _ => gd_replicate _ _⟩
theorem MulInv.skip {xs ys : List Int} {i : Nat} {s : List Int} (h : MulInv xs ys i s) (hz : gd xs i = 0) : MulInv xs ys (i + 1) s :=
  ⟨h.len, h.dg, by rw [val_take_succ, hz, h.eq]; simp, fun j hj => h.hi j (by omega)⟩
theorem MulInv.row {xs ys : List Int} {i : Nat} {s : List Int} (h : MulInv xs ys i s) : MulRow xs ys s i 0 s 0 :=
  ⟨h.len, h.dg, by omega, by omega, by simp, fun _ _ => rfl⟩
theorem mul_bound {a b : Int} (ha : 0 ≤ a) (ha1 : a < 4294967296) (hb : 0 ≤ b) (hb1 : b < 4294967296) : 0 ≤ a * b ∧ a * b ≤ 18446744065119617025 := by
  refine ⟨Int.mul_nonneg ha hb, ?_⟩
  have h1 : a * b ≤ 4294967295 * b := Int.mul_le_mul_of_nonneg_right (by omega) hb
  omega
theorem MulRow.step {xs ys s0 : List Int} {i j : Nat} {s : List Int} {c : Int} (h : MulRow xs ys s0 i j s c) (hx : Dg xs) (hy : Dg ys) (hi : i < xs.length) (hj : j < ys.length) :
    MulRow xs ys s0 i (j + 1) (s.set (i + j) ((gd xs i * gd ys j + gd s (i + j) + c) % 4294967296)) ((gd xs i * gd ys j + gd s (i + j) + c) / 4294967296) := by
  have a := hx.gd i
  have b := hy.gd j
  have d := h.dg.gd (i + j)
  have := h.c0
  have := h.c1
  have hl := h.len
  have he := h.eq
  have ⟨m0, m1⟩ := mul_bound a.1 a.2 b.1 b.2
  obtain ⟨t, ht⟩ : ∃ t, t = gd xs i * gd ys j + gd s (i + j) + c := ⟨_, rfl⟩
  rw [← ht]
  obtain ⟨r, hr⟩ : ∃ r, r = t % 4294967296 := ⟨_, rfl⟩
  obtain ⟨q, hq⟩ : ∃ q, q = t / 4294967296 := ⟨_, rfl⟩
  rw [← hr, ← hq]
  have e : r + 4294967296 * q = t := by omega
  refine ⟨by rw [List.length_set]; exact hl, h.dg.set _ (by omega) (by omega), by omega, by omega, ?_, fun k hk => ?_⟩
  · rw [val_set _ (by omega), val_take_succ, ← Nat.add_assoc, pw_succ]
    rw [pw_add] at he ⊢
    generalize gd xs i = x at *
    generalize gd ys j = y at *
    generalize gd s (i + j) = g at *
    generalize pw i = p at *
    generalize pw j = p' at *
    generalize val (ys.take j) = v at *
    have e2 : r = x * y + g + c - 4294967296 * q := by omega
    subst e2
    grind
  · rw [gd_set_ne (by omega)]; exact h.hi k (by omega)
theorem MulRow.done {xs ys s0 : List Int} {i : Nat} {s : List Int} {c : Int} (h : MulRow xs ys s0 i ys.length s c) (h0 : MulInv xs ys i s0) (hx : Dg xs) (hi : i < xs.length) :
    MulInv xs ys (i + 1) (s.set (i + ys.length) c) := by
  have := h.c0
  have := h.c1
  have hl := h.len
  have he := h.eq
  have hg := h.hi (i + ys.length) (Nat.le_refl _)
  rw [h0.hi _ (Nat.le_refl _)] at hg
  rw [val_take_ge (Nat.le_refl _), h0.eq] at he
  refine ⟨by rw [List.length_set]; exact hl, h.dg.set _ (by omega) (by omega), ?_, fun k hk => ?_⟩
  · rw [val_set _ (by omega), hg, val_take_succ]
    grind
  · rw [gd_set_ne (by omega), h.hi k (by omega)]; exact h0.hi k (by omega)

set_option maxRecDepth 100000 in
set_option maxHeartbeats 1000000 in
theorem mul_calls (A B : Option Addr) (c d n m : Nat) (xs ys : List Int) (w : World) (hx : Rd w A c xs) (hy : Rd w B d ys) (hn : n = xs.length) (hm : m = ys.length) (dx : Dg xs) (dy : Dg ys) (lx : xs.length ≤ 16777216) (ly : ys.length ≤ 16777216) :
    Calls Try.prog 32 #[.slice A n c, .slice B m d] w (Out w (canon (val xs * val ys))) := by
  subst hn hm
  have h1 := cutL_length_le xs
  have h2 := cutL_length_le ys
  have KX := Lib.hid fun W h => cut_l A c xs.length xs W h rfl
  have KY := Lib.hid fun W h => cut_l B d ys.length ys W h rfl
  have HX := Lib.hid hx
  have HY := Lib.hid hy
  have HXc := Lib.hid hx.cutL
  have HYc := Lib.hid hy.cutL
  have hcd := cutL_dg dx
  have hcd' := cutL_dg dy
  have hvl := cutL_val xs
  have hvl' := cutL_val ys
  rw [← hvl, ← hvl']
  have hlx : (cutL xs).length ≤ 16777216 := by omega
  have hly : (cutL ys).length ≤ 16777216 := by omega
  generalize cutL xs = xs' at *
  generalize cutL ys = ys' at *
  have HDX := Lib.hid hcd
  have HDY := Lib.hid hcd'
  clear hx hy dx dy hvl hvl' hcd hcd'
  by_cases hz : xs'.length = 0 ∨ ys'.length = 0
  · have hr : canon (val xs' * val ys') = [] := by
      rcases hz with h | h
      · rw [List.length_eq_zero_iff.1 h]; simp [canon_zero]
      · rw [List.length_eq_zero_iff.1 h]; simp [canon_zero]
    have HR := Lib.hid hr
    clear hr
    by_cases h0 : xs'.length = 0
    · have hb : ((xs'.length : Int) == 0) = true := by simp [h0]
      clear hz h0
      go_enter Try.func32, Try.ntmps32
      go_wp2_with fail
      refine (KX.out _ HX.out).mono ?_
      rintro e w' ⟨rfl, rfl⟩
      go_wp2_with fail
      refine (KY.out _ HY.out).mono ?_
      rintro e w' ⟨rfl, rfl⟩
      go_wp2_with fail
      go_ret
      rw [HR.out]
      exact Out.mk' rfl (Own.nil _ _) (Below.refl _ _)
    · have hb : ((xs'.length : Int) == 0) = false := by simp; intro he; exact h0 (by rw [he]; rfl)
      have hb' : ((ys'.length : Int) == 0) = true := by
        rcases hz with h | h
        · exact absurd h h0
        · simp [h]
      clear hz h0
      go_enter Try.func32, Try.ntmps32
      go_wp2_with fail
      refine (KX.out _ HX.out).mono ?_
      rintro e w' ⟨rfl, rfl⟩
      go_wp2_with fail
      refine (KY.out _ HY.out).mono ?_
      rintro e w' ⟨rfl, rfl⟩
      go_wp2_with fail
      go_ret
      rw [HR.out]
      exact Out.mk' rfl (Own.nil _ _) (Below.refl _ _)
  · have hb : ((xs'.length : Int) == 0) = false := by simp; intro he; exact hz (.inl (by rw [he]; rfl))
    have hb' : ((ys'.length : Int) == 0) = false := by simp; intro he; exact hz (.inr (by rw [he]; rfl))
    have hmk := make_u32 (xs'.length + ys'.length) ((xs'.length : Int) + (ys'.length : Int)) (by omega) (by omega)
    clear hz
    go_enter Try.func32, Try.ntmps32
    go_wp2_with fail
    refine (KX.out _ HX.out).mono ?_
    rintro e w' ⟨rfl, rfl⟩
    go_wp2_with fail
    refine (KY.out _ HY.out).mono ?_
    rintro e w' ⟨rfl, rfl⟩
    go_wp2_with fail
    go_loopw [34] (fun v34 wr => ∃ (i : Nat) (s : List Int), v34 = .int .i64 i ∧ i ≤ xs'.length ∧ Hid (MulInv xs' ys' i s) ∧ Hid (Own wr w.heap.size (some ⟨w.heap.size, 0, none⟩) (xs'.length + ys'.length) s) ∧ Hid (Below w.heap.size w wr)) (fun v _ => xs'.length - (intOf v).toNat)
    case atStart => exact ⟨0, _, rfl, Nat.zero_le _, MulInv.init xs' ys', Own.made w _ _ (Nat.le_refl _) (by omega), (Below.refl _ _).alloc (Nat.le_refl _) _⟩
    case round =>
      obtain ⟨i, s, rfl, hi, HI, HO, HB⟩ := hrel
      obtain ⟨wo, rfl⟩ : ∃ wo : World, wo = wr := ⟨_, rfl⟩
      by_cases hlt : i < xs'.length
      · have ha := HDX.out.gd i
        obtain ⟨adx, ex, hcx⟩ := (HXc.out.below HB.out).at_ i hlt
        cases ex
        by_cases hz : gd xs' i = 0
        · have hbz : (gd xs' i == 0) = true := by simp [hz]
          have HI' := Lib.hid (HI.out.skip hz)
          clear hz HI
          go_wp2
          go_roundw
          case rel => exact ⟨i + 1, s, by go_num, by omega, HI', HO, HB⟩
          case measure => simp [intOf]; omega
        · have hbz : (gd xs' i == 0) = false := by simp [hz]
          clear hz
          go_wp2_with fail
          go_loopw [10, 43] (fun v10 v43 wr => ∃ (j : Nat) (s' : List Int) (cr : Int), v10 = .int .u64 cr ∧ v43 = .int .i64 j ∧ j ≤ ys'.length ∧ 0 ≤ cr ∧ cr ≤ 4294967295 ∧ Hid (MulRow xs' ys' s i j s' cr) ∧ Hid (Own wr w.heap.size (some ⟨w.heap.size, 0, none⟩) (xs'.length + ys'.length) s') ∧ Hid (Below w.heap.size w wr)) (fun _ v _ => ys'.length - (intOf v).toNat)
          case atStart => exact ⟨0, s, 0, rfl, rfl, Nat.zero_le _, by omega, by omega, HI.out.row, HO, HB⟩
          case round =>
            clear HO HB hcx
            obtain ⟨j, s', cr, rfl, rfl, hj, hc0, hc1, HR, HO, HB⟩ := hrel
            by_cases hltj : j < ys'.length
            · have hb2 := HDY.out.gd j
              obtain ⟨bdx, ex, hcy⟩ := (HYc.out.below HB.out).at_ j hltj
              cases ex
              have hO1 := HO.out.cell (i + j) (by have := HR.out.len; omega)
              have hO2 := HO.out.frozen (i + j)
              have hd := HR.out.dg.gd (i + j)
              have ⟨hm0, hm1⟩ := mul_bound ha.1 ha.2 hb2.1 hb2.2
              go_wp2
              go_roundw
              case rel => 
                have hs := HR.out.step HDX.out HDY.out hlt hltj
                have h0 := hs.c0
                have h1 := hs.c1
                exact ⟨j + 1, _, _, rfl, by go_num, by omega, h0, h1, hs, HO.out.set (i + j) _, HB.out.setCell (Nat.le_refl _) _⟩
              case measure => simp [intOf]; omega
            · obtain rfl : j = ys'.length := by omega
              have hO1 := HO.out.cell (i + ys'.length) (by have := HR.out.len; omega)
              have hO2 := HO.out.frozen (i + ys'.length)
              have HD := Lib.hid (HR.out.done HI.out HDX.out hlt)
              go_wp2
              go_roundw
              case rel => exact ⟨i + 1, _, by go_num, by omega, HD, HO.out.set _ _, HB.out.setCell (Nat.le_refl _) _⟩
              case measure => simp [intOf]; omega
      · obtain rfl : i = xs'.length := by omega
        have hcu := cutL_canon HI.out.dg
        have he := HI.out.eq
        rw [val_take_ge (Nat.le_refl _)] at he
        rw [he] at hcu
        have HCU := Lib.hid hcu
        clear hcu he
        go_wp2_with fail
        refine (cut_l _ _ _ s _ HO.out.rd HI.out.len.symm).mono ?_
        rintro e w' ⟨rfl, rfl⟩
        go_wp2_with fail
        go_ret
        rw [← HCU.out]
        exact Out.mk' rfl (HO.out.cutL (by simp)) HB.out
end Go.Proofs.Ytcmiciloiicfoaa
