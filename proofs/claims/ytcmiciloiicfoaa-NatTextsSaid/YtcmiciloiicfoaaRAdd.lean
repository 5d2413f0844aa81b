/- dspcompilerref01.Add: the sum, digit by digit, appended. -/
import Derived.Test.YtcmiciloiicfoaaIn
namespace Go.Proofs.Ytcmiciloiicfoaa
open Go.RowKit Go.Proofs.YtcmiciloiicfoaaW.PrintWords

structure RAddInv (xs ys : List Int) (i : Nat) (s : List Int) (c : Int) : Prop where
  len : s.length = i
  dg : Dg s
  c0 : 0 ≤ c
  c1 : c ≤ 1
  eq : val s + pw i * c = val (xs.take i) + val (ys.take i)
theorem RAddInv.init (xs ys : List Int) : RAddInv xs ys 0 [] 0 := ⟨rfl, Dg.nil, by omega, by omega, by simp⟩
theorem RAddInv.step {xs ys : List Int} {i : Nat} {s : List Int} {c t : Int} (h : RAddInv xs ys i s c) (hx : Dg xs) (hy : Dg ys) (ht : t = c + gd xs i + gd ys i) :
    RAddInv xs ys (i + 1) (s ++ [t % 4294967296]) (t / 4294967296) := by
  have a := hx.gd i
  have b := hy.gd i
  have := h.c0
  have := h.c1
  have hl := h.len
  have he := h.eq
  obtain ⟨r, hr⟩ : ∃ r, r = t % 4294967296 := ⟨_, rfl⟩
  obtain ⟨q, hq⟩ : ∃ q, q = t / 4294967296 := ⟨_, rfl⟩
  rw [← hr, ← hq]
  have e : r = t - 4294967296 * q := by omega
  refine ⟨by simp [hl], h.dg.append (Dg.cons (by omega) (by omega) Dg.nil), by omega, by omega, ?_⟩
  rw [val_append, val_take_succ, val_take_succ, pw_succ, hl, val_cons, val_nil]
  clear hr hq
  subst e ht
  grind
theorem RAddInv.final {xs ys : List Int} {i : Nat} {s : List Int} {c : Int} (h : RAddInv xs ys i s c) (hx : xs.length ≤ i) (hy : ys.length ≤ i) : val (s ++ [c]) = val xs + val ys := by
  have he := h.eq
  rw [val_take_ge hx, val_take_ge hy] at he
  rw [val_append, h.len, val_cons, val_nil, Int.mul_zero, Int.add_zero]
  omega

theorem slice_snoc (R : Option Addr) (s : List Int) (x : Int) (k : Nat) : Value.slice R (s.length + 1) k = .slice R (s ++ [x]).length k := by rw [List.length_append]; rfl

set_option maxRecDepth 100000 in
set_option maxHeartbeats 800000 in
theorem radd_calls (A B : Option Addr) (c d n m : Nat) (xs ys : List Int) (w : World) (hx : Rd w A c xs) (hy : Rd w B d ys) (hn : n = xs.length) (hm : m = ys.length) (dx : Dg xs) (dy : Dg ys) (lx : xs.length ≤ 16777216) (ly : ys.length ≤ 16777216) :
    Calls Try.prog 48 #[.slice A n c, .slice B m d] w (Out w (canon (val xs + val ys))) := by
  subst hn hm
  have HX := Lib.hid hx
  have HY := Lib.hid hy
  have HDX := Lib.hid dx
  have HDY := Lib.hid dy
  clear hx hy dx dy
  go_enter Try.func48, Try.ntmps48
  go_wp2_with fail
  go_loopw [5, 6, 7] (fun v5 v6 v7 wr => ∃ (i : Nat) (s : List Int) (cr : Int) (R : Option Addr) (k : Nat), v5 = .slice R s.length k ∧ v6 = .int .u64 cr ∧ v7 = .int .i64 i ∧ i ≤ xs.length + ys.length ∧ 0 ≤ cr ∧ cr ≤ 1 ∧ Hid (RAddInv xs ys i s cr) ∧ Hid (Own wr w.heap.size R k s) ∧ Hid (Below w.heap.size w wr)) (fun _ _ v _ => xs.length + ys.length - (intOf v).toNat)
  case atStart => exact ⟨0, [], 0, none, 0, rfl, rfl, rfl, Nat.zero_le _, by omega, by omega, RAddInv.init xs ys, Own.nil _ _, Below.refl _ _⟩
  case round =>
    obtain ⟨i, s, cr, R, k, rfl, rfl, rfl, hi, hc0, hc1, HI, HO, HB⟩ := hrel
    have ha := HDX.out.gd i
    have hb := HDY.out.gd i
    have hsl := HI.out.len
    have HSL := Lib.hid hsl
    clear hsl
    by_cases hlx : i < xs.length
    · obtain ⟨adx, ex, hcx⟩ := (HX.out.below HB.out).at_ i hlx
      cases ex
      by_cases hly : i < ys.length
      · obtain ⟨ady, ey, hcy⟩ := (HY.out.below HB.out).at_ i hly
        cases ey
        go_wp2_with (at_builtin; refine app_law w.heap.size rfl (.tmp 42) (.tmp 45) rfl R k _ s rfl rfl (HO.out.alloc _) _ 1 1 [_] rfl rfl (lit1_at wr wr.heap.size wr.heap.size (Nat.le_refl _) rfl _).rd (by have := HSL.out; simp; omega) (by have := HB.out.size; simp; omega) ?_; intro R' k' w' hO hg)
        have HO' := Lib.hid hO
        have HB' := Lib.hid ((HB.out.alloc HB.out.size _).grown hg (by have := HB.out.size; simp; omega) HO.out.row)
        clear hO hg
        go_wp2_with fail
        go_roundw
        case rel => exact ⟨i + 1, _, _, R', k', slice_snoc _ _ _ _, rfl, by go_num, by omega, by omega, by omega, HI.out.step HDX.out HDY.out rfl, HO'.out, HB'.out⟩
        case measure => simp [intOf]; omega
      · have HZ := Lib.hid (gd_ge (xs := ys) (k := i) (by omega))
        go_wp2_with (at_builtin; refine app_law w.heap.size rfl (.tmp 42) (.tmp 45) rfl R k _ s rfl rfl (HO.out.alloc _) _ 1 1 [_] rfl rfl (lit1_at wr wr.heap.size wr.heap.size (Nat.le_refl _) rfl _).rd (by have := HSL.out; simp; omega) (by have := HB.out.size; simp; omega) ?_; intro R' k' w' hO hg)
        have HO' := Lib.hid hO
        have HB' := Lib.hid ((HB.out.alloc HB.out.size _).grown hg (by have := HB.out.size; simp; omega) HO.out.row)
        clear hO hg
        go_wp2_with fail
        go_roundw
        case rel => exact ⟨i + 1, _, _, R', k', slice_snoc _ _ _ _, rfl, by go_num, by omega, by omega, by omega, HI.out.step HDX.out HDY.out (by rw [HZ.out, Int.add_zero]), HO'.out, HB'.out⟩
        case measure => simp [intOf]; omega
    · have HZX := Lib.hid (gd_ge (xs := xs) (k := i) (by omega))
      by_cases hly : i < ys.length
      · obtain ⟨ady, ey, hcy⟩ := (HY.out.below HB.out).at_ i hly
        cases ey
        go_wp2_with (at_builtin; refine app_law w.heap.size rfl (.tmp 42) (.tmp 45) rfl R k _ s rfl rfl (HO.out.alloc _) _ 1 1 [_] rfl rfl (lit1_at wr wr.heap.size wr.heap.size (Nat.le_refl _) rfl _).rd (by have := HSL.out; simp; omega) (by have := HB.out.size; simp; omega) ?_; intro R' k' w' hO hg)
        have HO' := Lib.hid hO
        have HB' := Lib.hid ((HB.out.alloc HB.out.size _).grown hg (by have := HB.out.size; simp; omega) HO.out.row)
        clear hO hg
        go_wp2_with fail
        go_roundw
        case rel => exact ⟨i + 1, _, _, R', k', slice_snoc _ _ _ _, rfl, by go_num, by omega, by omega, by omega, HI.out.step HDX.out HDY.out (by rw [HZX.out, Int.add_zero]), HO'.out, HB'.out⟩
        case measure => simp [intOf]; omega
      · have hfin := HI.out.final (by omega) (by omega)
        have hdg : Dg (s ++ [cr]) := HI.out.dg.append (Dg.cons (by omega) (by omega) Dg.nil)
        have hcu := cutL_canon hdg
        rw [hfin] at hcu
        have HCU := Lib.hid hcu
        clear hfin hcu hdg
        go_wp2_with (at_builtin; refine app_law w.heap.size rfl (.tmp 49) (.tmp 52) rfl R k _ s rfl rfl (HO.out.alloc _) _ 1 1 [_] rfl rfl (lit1_at wr wr.heap.size wr.heap.size (Nat.le_refl _) rfl _).rd (by have := HSL.out; simp; omega) (by have := HB.out.size; simp; omega) ?_; intro R' k' w' hO hg)
        have HO' := Lib.hid hO
        have HB' := Lib.hid ((HB.out.alloc HB.out.size _).grown hg (by have := HB.out.size; simp; omega) HO.out.row)
        clear hO hg
        go_wp2_with fail
        refine (rtrim_calls _ _ _ _ _ HO'.out.rd (by simp)).mono ?_
        rintro e w2 ⟨R2, k2, rfl, hO2, hB2⟩
        go_wp2_with fail
        go_ret
        rw [← HCU.out]
        exact Out.mk' rfl (hO2.mono HB'.out.size) (below_then HB'.out HB'.out.size hB2)
end Go.Proofs.Ytcmiciloiicfoaa
