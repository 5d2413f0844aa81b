/- dspcompilerref01.Mul: the product. -/
import Derived.Test.YtcmiciloiicfoaaIn
namespace Go.Proofs.Ytcmiciloiicfoaa
open Go.RowKit Go.Proofs.YtcmiciloiicfoaaW.PrintWords

structure RMulInv (xs ys : List Int) (i : Nat) (s : List Int) : Prop where
  len : s.length = xs.length + ys.length + 1
  dg : Dg s
  eq : val s = val (xs.take i) * val ys
  hi : ∀ j, i + ys.length ≤ j → gd s j = 0
structure RMulRow (xs ys s0 : List Int) (i j : Nat) (s : List Int) (c : Int) : Prop where
  len : s.length = xs.length + ys.length + 1
  dg : Dg s
  c0 : 0 ≤ c
  c1 : c ≤ 4294967295
  eq : val s + pw (i + j) * c = val s0 + pw i * gd xs i * val (ys.take j)
  hi : ∀ k, i + j ≤ k → gd s k = gd s0 k
theorem RMulInv.init (xs ys : List Int) : RMulInv xs ys 0 (List.replicate (xs.length + ys.length + 1) 0) :=
  ⟨by simp, Dg.replicate _, by simp [val_replicate], fun j _ => gd_replicate _ _⟩
theorem RMulInv.row {xs ys : List Int} {i : Nat} {s : List Int} (h : RMulInv xs ys i s) : RMulRow xs ys s i 0 s 0 :=
  ⟨h.len, h.dg, by omega, by omega, by simp, fun _ _ => rfl⟩
theorem RMulRow.step {xs ys s0 : List Int} {i j : Nat} {s : List Int} {c : Int} (h : RMulRow xs ys s0 i j s c) (hx : Dg xs) (hy : Dg ys) (hi : i < xs.length) (hj : j < ys.length) {t : Int} (ht : t = c + (gd xs i * gd ys j + gd s (i + j))) :
    RMulRow xs ys s0 i (j + 1) (s.set (i + j) (t % 4294967296)) (t / 4294967296) := by
  have a := hx.gd i
  have b := hy.gd j
  have d := h.dg.gd (i + j)
  have := h.c0
  have := h.c1
  have hl := h.len
  have he := h.eq
  have ⟨m0, m1⟩ := mul_bound a.1 a.2 b.1 b.2
  obtain ⟨r, hr⟩ : ∃ r, r = t % 4294967296 := ⟨_, rfl⟩
  obtain ⟨q, hq⟩ : ∃ q, q = t / 4294967296 := ⟨_, rfl⟩
  rw [← hr, ← hq]
  have e : r + 4294967296 * q = t := by omega
  refine ⟨by rw [List.length_set]; exact hl, h.dg.set _ (by omega) (by omega), by omega, by omega, ?_, fun k hk => ?_⟩
  · rw [val_set _ (by omega), val_take_succ, ← Nat.add_assoc, pw_succ]
    rw [pw_add] at he ⊢
    generalize gd xs i = x at *
    generalize gd ys j = y at *
    generalize gd s (i + j) = g at *
    generalize pw i = p at *
    generalize pw j = p' at *
    generalize val (ys.take j) = v at *
    have e2 : r = c + (x * y + g) - 4294967296 * q := by omega
    subst e2
    grind
  · rw [gd_set_ne (by omega)]; exact h.hi k (by omega)
theorem RMulRow.done {xs ys s0 : List Int} {i : Nat} {s : List Int} {c : Int} (h : RMulRow xs ys s0 i ys.length s c) (h0 : RMulInv xs ys i s0) (hi : i < xs.length) :
    RMulInv xs ys (i + 1) (s.set (i + ys.length) c) := by
  have := h.c0
  have := h.c1
  have hl := h.len
  have he := h.eq
  have hg := h.hi (i + ys.length) (Nat.le_refl _)
  rw [h0.hi _ (Nat.le_refl _)] at hg
  rw [val_take_ge (Nat.le_refl _), h0.eq] at he
  refine ⟨by rw [List.length_set]; exact hl, h.dg.set _ (by omega) (by omega), ?_, fun k hk => ?_⟩
  · rw [val_set _ (by omega), hg, val_take_succ]
    grind
  · rw [gd_set_ne (by omega), h.hi k (by omega)]; exact h0.hi k (by omega)

set_option maxRecDepth 100000 in
set_option maxHeartbeats 1000000 in
theorem rmul_calls (A B : Option Addr) (c d n m : Nat) (xs ys : List Int) (w : World) (hx : Rd w A c xs) (hy : Rd w B d ys) (hn : n = xs.length) (hm : m = ys.length) (dx : Dg xs) (dy : Dg ys) (lx : xs.length ≤ 16777216) (ly : ys.length ≤ 16777216) :
    Calls Try.prog 50 #[.slice A n c, .slice B m d] w (Out w (canon (val xs * val ys))) := by
  subst hn hm
  have hmk := make_u32 (xs.length + ys.length + 1) ((xs.length : Int) + (ys.length : Int) + 1) (by omega) (by omega)
  have HX := Lib.hid hx
  have HY := Lib.hid hy
  have HDX := Lib.hid dx
  have HDY := Lib.hid dy
  clear hx hy dx dy
  go_enter Try.func50, Try.ntmps50
  go_wp2_with fail
  go_loopw [6] (fun v6 wr => ∃ (i : Nat) (s : List Int), v6 = .int .i64 i ∧ i ≤ xs.length ∧ Hid (RMulInv xs ys i s) ∧ Hid (Own wr w.heap.size (some ⟨w.heap.size, 0, none⟩) (xs.length + ys.length + 1) s) ∧ Hid (Below w.heap.size w wr)) (fun v _ => xs.length - (intOf v).toNat)
  case atStart => exact ⟨0, _, rfl, Nat.zero_le _, RMulInv.init xs ys, Own.made w _ _ (Nat.le_refl _) (by omega), (Below.refl _ _).alloc (Nat.le_refl _) _⟩
  case round =>
    obtain ⟨i, s, rfl, hi, HI, HO, HB⟩ := hrel
    obtain ⟨wo, rfl⟩ : ∃ wo : World, wo = wr := ⟨_, rfl⟩
    by_cases hlt : i < xs.length
    · have ha := HDX.out.gd i
      go_wp2_with fail
      go_loopw [7, 8] (fun v7 v8 wr => ∃ (j : Nat) (s' : List Int) (cr : Int), v7 = .int .u64 cr ∧ v8 = .int .i64 j ∧ j ≤ ys.length ∧ 0 ≤ cr ∧ cr ≤ 4294967295 ∧ Hid (RMulRow xs ys s i j s' cr) ∧ Hid (Own wr w.heap.size (some ⟨w.heap.size, 0, none⟩) (xs.length + ys.length + 1) s') ∧ Hid (Below w.heap.size w wr)) (fun _ v _ => ys.length - (intOf v).toNat)
      case atStart => exact ⟨0, s, 0, rfl, rfl, Nat.zero_le _, by omega, by omega, HI.out.row, HO, HB⟩
      case round =>
        clear HO HB
        obtain ⟨j, s', cr, rfl, rfl, hj, hc0, hc1, HR, HO, HB⟩ := hrel
        by_cases hltj : j < ys.length
        · have hb2 := HDY.out.gd j
          obtain ⟨adx, ex, hcx⟩ := (HX.out.below HB.out).at_ i hlt
          cases ex
          obtain ⟨bdx, ex, hcy⟩ := (HY.out.below HB.out).at_ j hltj
          cases ex
          have hO1 := HO.out.cell (i + j) (by have := HR.out.len; omega)
          have hd := HR.out.dg.gd (i + j)
          have ⟨hm0, hm1⟩ := mul_bound ha.1 ha.2 hb2.1 hb2.2
          go_wp2
          go_quiet (fail)
          obtain ⟨W, hW⟩ : ∃ W, W = wr.drewN nq := ⟨_, rfl⟩
          have HO' : Hid (Own W w.heap.size (some ⟨w.heap.size, 0, none⟩) (xs.length + ys.length + 1) s') := by rw [hW]; exact HO.out.drewN _
          have HB' : Hid (Below w.heap.size w W) := by rw [hW]; exact pw_below_drewN HB.out _
          rw [← hW]
          clear hW hO1 HO HB hcx hcy
          have hO1 := HO'.out.cell (i + j) (by have := HR.out.len; omega)
          have hO2 := HO'.out.frozen (i + j)
          go_wp2
          go_roundw
          case rel =>
            have hs := HR.out.step HDX.out HDY.out hlt hltj rfl
            have h0 := hs.c0
            have h1 := hs.c1
            exact ⟨j + 1, _, _, rfl, by go_num, by omega, h0, h1, hs, HO'.out.set (i + j) _, HB'.out.setCell (Nat.le_refl _) _⟩
          case measure => simp [intOf]; omega
        · obtain rfl : j = ys.length := by omega
          have hO1 := HO.out.cell (i + ys.length) (by have := HR.out.len; omega)
          have hO2 := HO.out.frozen (i + ys.length)
          have HD := Lib.hid (HR.out.done HI.out hlt)
          go_wp2
          go_roundw
          case rel => exact ⟨i + 1, _, by go_num, by omega, HD, HO.out.set _ _, HB.out.setCell (Nat.le_refl _) _⟩
          case measure => simp [intOf]; omega
    · obtain rfl : i = xs.length := by omega
      have hcu := cutL_canon HI.out.dg
      have he := HI.out.eq
      rw [val_take_ge (Nat.le_refl _)] at he
      rw [he] at hcu
      have HCU := Lib.hid hcu
      clear hcu he
      go_wp2_with fail
      refine (rtrim_calls _ _ _ s _ HO.out.rd HI.out.len.symm).mono ?_
      rintro e w4 ⟨R4, k4, rfl, hO4, hB4⟩
      go_wp2_with fail
      go_ret
      rw [← HCU.out]
      exact Out.mk' rfl (hO4.mono HB.out.size) (below_then HB.out HB.out.size hB4)
end Go.Proofs.Ytcmiciloiicfoaa
