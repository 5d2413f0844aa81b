/- dspcompilerref01.DivMod where the divisor has two digits or more and is not greater. -/
import Derived.Test.YtcmiciloiicfoaaRDivS
namespace Go.Proofs.Ytcmiciloiicfoaa
open Go.RowKit Go.Proofs.YtcmiciloiicfoaaW.PrintWords

set_option maxRecDepth 100000 in
/-- append(v, x...) with where the new slice lies. -/
theorem app_at {W : World} {ops : Array Oper} {rest : List Oper} {o : Oper} {a : Act} {Q : Exit → Act → World → Prop} (base : Nat) (hgd : o.guard = none) (s x : Operand)
    (ho : o.op = .call { callee := .builtin .append, args := #[s, x], argTypes := #[45, 45] })
    (A : Option Addr) (c n : Nat) (xs : List Int) (hs : a.eval s = .slice A n c) (hn : n = xs.length) (HO : Own W base A c xs)
    (bd : Addr) (d m : Nat) (ys : List Int) (hx : a.eval x = .slice (some bd) m d) (hm : m = ys.length) (HR : Rd W (some bd) d ys)
    (hl : xs.length + ys.length ≤ 4294967296) (hbase : base ≤ W.heap.size)
    (h : ∀ R k w', Own w' base R k (xs ++ ys) → W.grownBy w' (Value.slice A n c).ownBlock → (∀ g', R = some ⟨g', 0, none⟩ → A = some ⟨g', 0, none⟩ ∨ g' = W.heap.size) → wpList Try.prog ops Q rest (a.put o.dst (.slice R (xs ++ ys).length k)) w') :
    wpList Try.prog ops Q (o :: rest) a W := by
  subst hn hm
  obtain ⟨i0, hi, hz0, hz1, hz2⟩ := info_parts info53
  refine wpList_append_own_at _ hgd s x 45 ho base 53 i0 (.int .u32 0) 1 4 Try.underlying45 hi hz0 hz1 hz2 rfl (by decide) _ xs.length (nums .u32 xs) hs HO.own bd ys.length d (nums .u32 ys) hx (by simp [nums]) ?_ ?_ (by unfold maxLen; omega) (by omega) hbase ?_
  · intro j u hj
    have hlt : j < ys.length := by
      have := (List.getElem?_eq_some_iff.1 hj).1
      simpa [nums] using this
    obtain ⟨ad, e, hc⟩ := HR.at_ j hlt
    cases e
    rw [hc]
    simp only [nums, List.getElem?_map, gd_lt hlt, Option.map_some] at hj
    exact hj
  · intro u hu
    obtain ⟨z, _, rfl⟩ := List.mem_map.1 hu
    rfl
  · intro v' w' hown hg _ hat
    obtain ⟨R, k, rfl⟩ := own_slice hown
    have e : xs.length + ys.length = (xs ++ ys).length := by simp
    rw [e] at hown ⊢
    have ho' : Own w' base R k (xs ++ ys) := ⟨by rw [nums_append]; exact hown, by simpa using hl⟩
    refine h R k w' ho' hg fun g' eR => ?_
    subst eR
    rcases hat with h1 | h1
    · left
      rcases HO.own.2 with ⟨he, h0⟩ | ⟨g, cap, cur, he, _⟩
      · injection he with he _ _; subst he; simp [Value.ownBlock] at h1
      · injection he with he _ _; subst he
        have : g' = g := by simpa [Value.ownBlock] using h1
        rw [this]
    · right
      simpa [Value.ownBlock] using h1
theorem Win.cell' {w : World} {base g C : Nat} {P U T : List Int} (h : Win w base g C P U T) (i : Nat) (hi : i < U.length) {o : Nat} (ho : o = P.length + i) : w.cell? ⟨g, o, none⟩ = some (.int .u32 (gd U i)) := by
  subst ho; exact h.cell i hi
theorem Win.set' {w : World} {base g C : Nat} {P U T : List Int} (h : Win w base g C P U T) (i : Nat) (hi : i < U.length) (x : Int) {o : Nat} (ho : o = P.length + i) : Win (w.setCell ⟨g, o, none⟩ (.int .u32 x)) base g C P (U.set i x) T := by
  subst ho; exact h.set i hi x
theorem and_low {p : Int} (h0 : 0 ≤ p) (h1 : p < 18446744073709551616) : bits .and .u64 p 4294967295 = p % 4294967296 := by
  rw [u64_and p 4294967295 h0 h1 (by omega) (by omega)]
  have : p.toNat &&& (4294967295 : Int).toNat = p.toNat % 4294967296 := Nat.and_two_pow_sub_one_eq_mod p.toNat 32
  rw [this]; omega
theorem two_out {w w0 w1 w2 : World} {q r : List Int} {Q R : Option Addr} {kq kr : Nat} (hb : Below w.heap.size w w0) (o1 : Own w1 w0.heap.size Q kq q) (b1 : Below w0.heap.size w0 w1) (o2 : Own w2 w1.heap.size R kr r) (b2 : Below w1.heap.size w1 w2) :
    Own w2 w.heap.size Q kq q ∧ Own w2 w.heap.size R kr r ∧ Below w.heap.size w w2 := by
  have h1 := below_then hb hb.size b1
  exact ⟨(o1.below b2).mono hb.size, o2.mono h1.size, below_then h1 h1.size b2⟩
theorem own_block (g n c : Nat) : (Value.slice (some ⟨g, 0, none⟩) n c).ownBlock = some g := rfl
theorem Own.grownBlk {w w1 : World} {base c g g' : Nat} {s : List Int} (h : Own w base (some ⟨g, 0, none⟩) c s) (hg : w.grownBy w1 (some g')) (hne : g ≠ g') : Own w1 base (some ⟨g, 0, none⟩) c s :=
  h.grown hg (by intro x e; injection e with e; injection e with e _ _; subst e; simpa using hne)

set_option maxRecDepth 100000 in
set_option maxHeartbeats 4000000 in
theorem rdiv_long (A B : Option Addr) (c d n m : Nat) (xs ys : List Int) (w : World) (hx : Rd w A c xs) (hy : Rd w B d ys) (hn : n = xs.length) (hm : m = ys.length) (dx : Dg xs) (dy : Dg ys) (h2 : 2 ≤ (cutL ys).length) (h : val ys ≤ val xs) (lx : xs.length ≤ 16777000) :
    Calls Try.prog 44 #[.slice A n c, .slice B m d] w (Out3 w (canon (val xs / val ys)) (canon (val xs % val ys)) 0) := by
  subst hn hm
  have hc : decide (cmpI (val xs) (val ys) < 0) = false := by
    rcases Int.lt_or_eq_of_le h with h | h
    · rw [cmpI_gt h]; rfl
    · rw [h, cmpI_eq]; rfl
  have hlx := cutL_length_le xs
  have KX := Lib.hid fun W h => rtrim_calls A c xs.length xs W h rfl
  have KY := Lib.hid fun W h => rtrim_calls B d ys.length ys W h rfl
  have HX := Lib.hid hx
  have HY := Lib.hid hy
  have hdx := cutL_dg dx
  have hdy := cutL_dg dy
  have hnx := cutL_nm xs
  have hny := cutL_nm ys
  have hb : (((cutL ys).length : Int) == 0) = false := by simp; intro he; rw [he] at h2; simp at h2
  have hb1 : (((cutL ys).length : Int) == 1) = false := by simp; omega
  rw [← cutL_val xs, ← cutL_val ys] at hc h ⊢
  generalize cutL xs = xs' at *
  generalize cutL ys = ys' at *
  have hle := len_le_of_val hdx hdy hnx hny h
  obtain ⟨a, ha⟩ : ∃ a, ys'.length - 1 = a := ⟨_, rfl⟩
  have hN := RNorm.of hdx hdy hnx hny (by omega) hle (s := 32 - bl (gd ys' (ys'.length - 1))) rfl
  rw [ha] at hN
  have hnz := hny (by omega)
  rw [ha] at hnz
  have hg := hdy.gd a
  have i1 : (ys'.length : Int) - 1 = (a : Int) := by omega
  have la : a < ys'.length := by omega
  have hyl : ys'.length = a + 1 := by omega
  have hs0 := hN.s0
  have hs1 := hN.s1
  have HN := Lib.hid hN
  have HDX := Lib.hid hdx
  have HDY := Lib.hid hdy
  have HG := Lib.hid hnz
  have HYL := Lib.hid hyl
  have HNX := Lib.hid hnx
  clear hx hy dx dy hdx hdy hnx hny hnz hN ha h hyl
  go_enter Try.func44, Try.ntmps44
  go_wp2_with fail
  refine (KX.out _ HX.out).mono ?_
  rintro e w1 ⟨R1, k1, rfl, hO1, hB1⟩
  have HO1 := Lib.hid hO1
  have HB1 := Lib.hid hB1
  clear hO1 hB1
  go_wp2_with fail
  refine (KY.out _ (HY.out.below HB1.out)).mono ?_
  rintro e w2 ⟨R2, k2, rfl, hO2, hB2⟩
  obtain ⟨gy, rfl, _, _⟩ := hO2.form (by omega)
  have HB2 := Lib.hid (below_then HB1.out HB1.out.size hB2)
  have HR1 := Lib.hid (HO1.out.below hB2).rd
  have HR2 := Lib.hid hO2.rd
  have hk2 := hO2.cap
  clear hO2 hB2 HO1 HB1
  go_wp2_with fail
  refine (rcompare_calls R1 _ k1 k2 _ _ xs' ys' _ HR1.out HR2.out HDX.out HDY.out rfl rfl).mono ?_
  rintro e w3 ⟨rfl, hB3⟩
  have HB3 := Lib.hid (below_then HB2.out HB2.out.size hB3)
  have HX3 := Lib.hid (HR1.out.below hB3)
  have HY3 := Lib.hid (HR2.out.below hB3)
  clear hB3 HR1 HR2
  have hcutb : ∀ W : World, (Instr.slice 45 (.slice (some ⟨gy, 0, none⟩) ys'.length k2) (some (.int .i64 (a : Int))) none none).run Try.prog W = .ok (.slice (some ⟨gy, a, none⟩) 1 (k2 - a)) W := by
    obtain ⟨i0, hi, hz0, hz1, hz2⟩ := info_parts info53
    intro W
    have := cut_from (P := Try.prog) 45 53 .i64 Try.underlying45 hi 1 hz1 (some ⟨gy, 0, none⟩) ys'.length k2 (a : Int) (by omega) (by omega) W
    rw [this, Int.toNat_natCast, if_neg (by omega), show ys'.length - a = 1 from by have := HYL.out; omega, Nat.mul_one, Option.map_some, add_plain]
  go_wp2_with fail
  have hrd1 : Rd w3 (some ⟨gy, a, none⟩) (k2 - a) [gd ys' a] := by
    refine ⟨by simp; omega, by simp, (fun e => by cases e), fun _ => ⟨_, rfl, fun j hj => ?_⟩⟩
    obtain rfl : j = 0 := by simp at hj; omega
    obtain ⟨ad, e, hcc⟩ := HY3.out.at_ a la
    cases e
    rw [addr_zero, gd_zero]
    rwa [add_plain] at hcc
  refine (rbitlen_calls _ _ (gd ys' a) _ hrd1 (by have := HG.out; omega) hg.2).mono ?_
  rintro e w4 ⟨rfl, hB4⟩
  have HB4 := Lib.hid (below_then HB3.out HB3.out.size hB4)
  have HX4 := Lib.hid (HX3.out.below hB4)
  have HY4 := Lib.hid (HY3.out.below hB4)
  clear hB4 HX3 HY3 hrd1 hcutb
  go_wp2_with fail
  obtain ⟨s, hsd⟩ : ∃ s, s = 32 - (bl (gd ys' a) : Int) := ⟨_, rfl⟩
  rw [← hsd] at HN hs0 hs1
  rw [← hsd]
  have HSD := Lib.hid hsd
  clear hsd
  refine (rshift_up R1 k1 _ s xs' _ HX4.out rfl HDX.out hs0 hs1 (by omega)).mono ?_
  rintro e w5 ⟨R5, k5, rfl, hO5, hB5⟩
  have HB5 := Lib.hid (below_then HB4.out HB4.out.size hB5)
  have HY5 := Lib.hid (HY4.out.below hB5)
  have HU5 := Lib.hid hO5
  clear hO5 hB5 HY4 HX4
  go_wp2_with fail
  refine (rshift_up _ k2 _ s ys' _ HY5.out rfl HDY.out hs0 hs1 (by omega)).mono ?_
  rintro e w6 ⟨R6, k6, rfl, hO6, hB6⟩
  have HB6 := Lib.hid (below_then HB5.out HB5.out.size hB6)
  have HU6 := Lib.hid (HU5.out.below hB6)
  have hub := fun g e => (HU5.out.blk_lt (g := g) e).2
  have hs6 := HB6.out.size
  have hs46 := Nat.le_trans hB6.size (Nat.le_refl _)
  have hs45 := HB5.out.size
  have hs54 := HB4.out.size
  clear hB6 HY5 HU5
  generalize canon ((2 : Int) ^ s.toNat * val xs') = U5 at *
  generalize canon ((2 : Int) ^ s.toNat * val ys') = V at *
  obtain ⟨U0, hU0⟩ : ∃ U0, U5 ++ [0] = U0 := ⟨_, rfl⟩
  obtain ⟨lu, hlu⟩ : ∃ lu, U0.length = lu := ⟨_, rfl⟩
  rw [hU0] at HN
  have ul := HN.out.ulen
  have ul2 := HN.out.ulen2
  have hnn := HN.out.vlen
  rw [hnn]
  rw [hlu] at ul ul2
  have hl5 : U5.length + 1 = lu := by rw [← hlu, ← hU0]; simp
  obtain ⟨gu5, rfl, hu0, hu1⟩ := HU6.out.form (by omega)
  obtain ⟨gv, rfl, hv0, hv1⟩ := hO6.form (by omega)
  have hu5 := hub gu5 rfl
  have hne5 : gu5 ≠ gv := by omega
  have HV6 := Lib.hid hO6
  have HUE := Lib.hid hU0
  have HLU := Lib.hid hlu
  have HNN := Lib.hid hnn
  have HL5 := Lib.hid hl5
  clear hO6 hub hU0 hlu hnn hl5
  go_wp2_with (at_builtin; refine app_at w4.heap.size rfl (.tmp 67) (.tmp 68) rfl _ k5 _ U5 rfl rfl (HU6.out.alloc _) _ 1 1 [0] rfl rfl (lit1_at w6 w6.heap.size w6.heap.size (Nat.le_refl _) rfl _).rd (by have := HL5.out; simp; omega) (by simp; omega) ?_; intro Ru ku w7 hO hg hat; rw [HUE.out, HLU.out])
  have hG := hg
  obtain ⟨gu, rfl, hgu0, hgu1⟩ := hO.form (by simp)
  have hguv : gu ≠ gv := by
    rcases hat gu rfl with e | e
    · injection e with e; injection e with e _ _; omega
    · simp at e; omega
  have hsz7 : w6.heap.size + 1 ≤ w7.heap.size := by have := hg.size; simpa using this
  have HV7 := Lib.hid (((HV6.out.alloc (.cells #[.int .u32 0] 53)).grownBlk hg (Ne.symm hne5)).mono (show w.heap.size ≤ w5.heap.size from hs45))
  have HU7 := Lib.hid (HUE.out ▸ hO.mono (show w.heap.size ≤ w4.heap.size from hs54))
  have HB7 := Lib.hid ((HB6.out.alloc HB6.out.size (.cells #[.int .u32 0] 53)).grown hg (by simp; omega) (by intro k e; rw [own_block] at e; injection e with e; omega))
  have hkuc := hO.cap
  have hku : lu ≤ ku := by rw [HUE.out, HLU.out] at hkuc; exact hkuc
  have hgv7 : gv < w7.heap.size := by omega
  clear hO hg hat hG HU6 HV6 hu0 hu1 hv0 hv1 hu5 hne5 hkuc hs46 hs45 hs54 hs6 hgu0 HB2 HB3 HB4 HB5 HB6 hsz7
  go_loopw [10] (fun v10 wr => v10 = .slice (some ⟨gu, 0, none⟩) lu ku ∧ wr = w7) (fun _ _ => 0)
  case atStart => exact ⟨rfl, rfl⟩
  case round =>
    obtain ⟨rfl, rfl⟩ := hrel
    obtain ⟨mq, hmq⟩ : ∃ mq, lu - ys'.length = mq := ⟨_, rfl⟩
    have i2 : (lu : Int) - (ys'.length : Int) = (mq : Int) := by omega
    have hmk := make_u32 mq (mq : Int) rfl (by omega)
    have hmq0 : mq + ys'.length = lu := by omega
    clear hmq
    have hus : gu < wr.heap.size := hgu1
    have hvs := hgv7
    go_wp2_with fail
    obtain ⟨W9, hW9⟩ : ∃ W9, W9 = wr.alloc (.cells (madeCells #[.int .u32 0] mq) 53) := ⟨_, rfl⟩
    rw [← hW9]
    have HQ9 : Hid (Own W9 w.heap.size (some ⟨wr.heap.size, 0, none⟩) mq (List.replicate mq 0)) := by rw [hW9]; exact Own.made wr _ mq HB7.out.size (by omega)
    have HU9 : Hid (Own W9 w.heap.size (some ⟨gu, 0, none⟩) ku U0) := by rw [hW9]; exact HU7.out.alloc _
    have HV9 : Hid (Own W9 w.heap.size (some ⟨gv, 0, none⟩) k6 V) := by rw [hW9]; exact HV7.out.alloc _
    have HB9 : Hid (Below w.heap.size w W9) := by rw [hW9]; exact HB7.out.alloc HB7.out.size _
    obtain ⟨gq, hgq⟩ : ∃ gq, gq = wr.heap.size := ⟨_, rfl⟩
    rw [← hgq] at HQ9 hus hvs ⊢
    have hguq : gu ≠ gq := by omega
    have hgvq : gv ≠ gq := by omega
    have hbq : w.heap.size ≤ gq := by rw [hgq]; exact HB7.out.size
    have hbu := HU9.out.lt.1
    have hbv := HV9.out.lt.1
    obtain ⟨b, hb2⟩ : ∃ b, ys'.length = b + 2 := ⟨ys'.length - 2, by omega⟩
    have i3 : (ys'.length : Int) - 2 = (b : Int) := by omega
    have lb : b < ys'.length := by omega
    have vtop := HN.out.vtop
    have hva : V.length - 1 = a := by have := HNN.out; omega
    have hvb : V.length - 2 = b := by have := HNN.out; omega
    rw [hva] at vtop
    have HVA := Lib.hid hva
    have HVB := Lib.hid hvb
    have hvd := HN.out.vdg
    have vn1 := hvd.gd a
    have vn2 := hvd.gd b
    have vp : 0 < gd V a := by omega
    have HVD := Lib.hid hvd
    have hin := HN.out.d
    rw [HLU.out, HNN.out, show lu - ys'.length = mq from by omega] at hin
    have HIN := Lib.hid hin
    have hxb : xs'.length ≤ 16777000 := by omega
    have hyb : ys'.length ≤ 16777000 := by omega
    clear HX HY hlx KX KY hle lx HDX HG HNX hk2 HUE HL5 hb hb1 HSD hW9 hgq hb2 vtop hva hvb hvd hus hvs hgu1 hgv7 HU7 HV7 HB7 hmk i2 hg hc hin
    go_loopw [14] (fun v14 wr => ∃ (k : Nat) (j : Int) (s U : List Int), v14 = .int .i64 j ∧ j + 1 = k ∧ k ≤ mq ∧ Hid (LongInv U0 V mq k s U) ∧ Hid (Own wr w.heap.size (some ⟨gq, 0, none⟩) mq s) ∧ Hid (Own wr w.heap.size (some ⟨gu, 0, none⟩) ku U) ∧ Hid (Own wr w.heap.size (some ⟨gv, 0, none⟩) k6 V) ∧ Hid (Below w.heap.size w wr)) (fun v _ => (intOf v + 1).toNat)
    case atStart => exact ⟨mq, _, _, U0, rfl, by omega, Nat.le_refl _, LongInv.init HN.out.udg HIN.out, HQ9, HU9, HV9, HB9⟩
    case round =>
      clear HQ9 HU9 HV9 HB9
      obtain ⟨k, j, s', U, rfl, hj, hk, HI, HQ, HU, HV, HB⟩ := hrel
      obtain ⟨wo, rfl⟩ : ∃ wo : World, wo = wr := ⟨_, rfl⟩
      cases k with
      | zero =>
        obtain rfl : j = -1 := by omega
        obtain ⟨hfs, hfu⟩ := HI.out.final
        have hUlen : U.length = lu := by rw [HI.out.ulen, HLU.out]
        have hP := Pow2.of s hs0 hs1
        have hP1 := hP.p0
        rw [HN.out.uval, HN.out.vval] at hfs hfu
        rw [Int.mul_ediv_mul_of_pos _ _ (by omega)] at hfs
        rw [Int.mul_emod_mul_of_pos _ _ (by omega)] at hfu
        have hcq := cutL_canon HI.out.sdg
        rw [hfs] at hcq
        have hYpos : 0 < val ys' := by
          have h1 := HN.out.vpos
          rw [HN.out.vval] at h1
          rcases Int.lt_or_le 0 (val ys') with h2 | h2
          · exact h2
          · have : (2 : Int) ^ s.toNat * val ys' ≤ (2 : Int) ^ s.toNat * 0 := Int.mul_le_mul_of_nonneg_left h2 (by omega)
            rw [Int.mul_zero] at this; omega
        have hm0 := Int.emod_nonneg (val xs') (show val ys' ≠ 0 by omega)
        have hm1 := Int.emod_lt_of_pos (val xs') hYpos
        have hut : val (U.take ys'.length) = (2 : Int) ^ s.toNat * (val xs' % val ys') := by
          have h1 := val_take_drop U ys'.length (by omega)
          have h3 := val_nonneg (HI.out.udg.drop ys'.length)
          have h4 := val_nonneg (HI.out.udg.take ys'.length)
          have h5 := val_lt HVD.out
          rw [HN.out.vval, HNN.out] at h5
          have h6 : (2 : Int) ^ s.toNat * (val xs' % val ys') ≤ (2 : Int) ^ s.toNat * val ys' := Int.mul_le_mul_of_nonneg_left (by omega) (by omega)
          rcases Int.lt_or_le 0 (val (U.drop ys'.length)) with hp | hp
          · have : pw ys'.length * 1 ≤ pw ys'.length * val (U.drop ys'.length) := Int.mul_le_mul_of_nonneg_left (by omega) (Int.le_of_lt (pw_pos _))
            omega
          · have : val (U.drop ys'.length) = 0 := by omega
            rw [this, Int.mul_zero] at h1
            omega
        have hrd : ∀ W, Own W w.heap.size (some ⟨gu, 0, none⟩) ku U → Rd W (some ⟨gu, 0, none⟩) ku (U.take ys'.length) := fun W h => h.rd.take _ (by omega)
        have hutl : (U.take ys'.length).length = ys'.length := by rw [List.length_take]; omega
        have hutd := HI.out.udg.take ys'.length
        generalize U.take ys'.length = Ut at *
        have KQ := Lib.hid fun W (h : Own W w.heap.size (some ⟨gq, 0, none⟩) mq s') => rtrim_calls (some ⟨gq, 0, none⟩) mq mq s' W h.rd HI.out.slen.symm
        rw [hcq] at KQ
        have KU : Hid (∀ W, Own W w.heap.size (some ⟨gu, 0, none⟩) ku U → Calls Try.prog 86 #[.slice (some ⟨gu, 0, none⟩) ys'.length ku, .int .i64 (-s)] W (Out W (canon (val xs' % val ys')))) := by
          intro W h
          rcases Int.lt_or_eq_of_le hs0 with h1 | h1
          · have := rshift_down (some ⟨gu, 0, none⟩) ku ys'.length s (-s) Ut W (hrd W h) hutl.symm rfl hutd (by omega) hs1 (by omega)
            rwa [hut, Int.mul_ediv_cancel_left _ (by omega)] at this
          · have := rshift_up (some ⟨gu, 0, none⟩) ku ys'.length 0 Ut W (hrd W h) hutl.symm hutd (by omega) (by omega) (by omega)
            rw [hut, ← h1] at this
            rw [← h1]
            simpa using this
        have hc1 : ys'.length ≤ ku := by omega
        have hcutu : ∀ W : World, (Instr.slice 45 (.slice (some ⟨gu, 0, none⟩) lu ku) none (some (.int .i64 (ys'.length : Int))) none).run Try.prog W = .ok (.slice (some ⟨gu, 0, none⟩) ys'.length ku) W := by
          obtain ⟨i0, hi, _⟩ := info_parts info53
          have := cut_to (P := Try.prog) 45 53 .i64 Try.underlying45 hi (some ⟨gu, 0, none⟩) lu ku (ys'.length : Int) (by omega) (by omega) (by omega)
          simpa using this
        clear hfs hfu hUlen hP hP1 hcq hYpos hm0 hm1 hut hrd hutl hutd HI
        go_wp2_with fail
        have hws : IntKind.i64.wrap (-s) = -s := by rw [IntKind.wrap_i64]; omega
        go_region_with (first
          | (go_at_call 31; refine Calls.mono (KQ.out _ ?_) ?_; (first | exact HQ.out | exact HQ.out.drew | exact HQ.out.drew.below (by assumption)); rintro e wq ⟨Q, kq, rfl, hOq, hBq⟩)
          | (go_at_call 86; refine Calls.mono (KU.out _ ?_) ?_; (first | exact HU.out | exact HU.out.drew | exact HU.out.drew.below (by assumption)); rintro e wu ⟨R, kr, rfl, hOu, hBu⟩))
        all_goals (go_wp2_with fail; go_ret3)
        obtain ⟨o1, o2, o3⟩ := two_out HB.out.drew hOq hBq hOu hBu
        exact Out3.mk' rfl rfl o1 o2 o3
      | succ k =>
        obtain rfl : j = (k : Int) := by omega
        clear hj
        have hd1 := HI.out.div1 HN.out.vdg (by rw [HNN.out]; exact h2) HN.out.vtop (by rw [HNN.out, HLU.out]; omega)
        have hst := HI.out.step HN.out.vdg HN.out.vpos HN.out.udg (by rw [HNN.out, HLU.out]; omega) (by omega)
        rw [HNN.out] at hd1 hst
        have hwin : Win wo w.heap.size gu ku (U.take k) ((U.drop k).take (ys'.length + 1)) (U.drop (k + ys'.length + 1)) := ⟨by rw [← split3]; exact HU.out⟩
        have hl2 : (U.take k).length = k := by rw [List.length_take]; have := HI.out.ulen; have := HLU.out; omega
        have hl1 := hd1.len
        rw [HNN.out] at hl1
        have HD1 := Lib.hid hd1
        have HST := Lib.hid hst
        have HWIN := Lib.hid hwin
        have HL1 := Lib.hid hl1
        have HL2 := Lib.hid hl2
        clear hd1 hst hwin hl1 hl2
        generalize (U.drop k).take (ys'.length + 1) = Wd at *
        generalize U.take k = Pd at *
        generalize U.drop (k + ys'.length + 1) = Td at *
        obtain ⟨p, hp⟩ : ∃ p, k + ys'.length = p := ⟨_, rfl⟩
        obtain ⟨p1, hp1⟩ : ∃ p1, k + a = p1 := ⟨_, rfl⟩
        obtain ⟨p2, hp2⟩ : ∃ p2, k + b = p2 := ⟨_, rfl⟩
        have e0 : (k : Int) + (ys'.length : Int) = (p : Int) := by omega
        have e1 : (p : Int) - 1 = (p1 : Int) := by omega
        have e2 : (p : Int) - 2 = (p2 : Int) := by omega
        have lp : p < lu := by omega
        have lp1 : p1 < p := by omega
        have lp2 : p2 < p := by omega
        have cu0 := HWIN.out.cell ys'.length (by rw [HL1.out]; omega)
        have cu1 := HWIN.out.cell a (by rw [HL1.out]; omega)
        rw [HL2.out, hp] at cu0
        rw [HL2.out, hp1] at cu1
        have cv1 := HV.out.cell a (by rw [HNN.out]; omega)
        have HP := Lib.hid hp
        have HP1 := Lib.hid hp1
        have HP2 := Lib.hid hp2
        clear hp hp1 hp2
        have un := HD1.out.dU.gd ys'.length
        have un1 := HD1.out.dU.gd a
        have un2 := HD1.out.dU.gd b
        have hor := or_join64 (a := gd Wd ys'.length * 4294967296) (b := gd Wd a) (k := 32) (by omega) (by omega) (by omega) (by omega) (by omega) (Int.mul_emod_left _ _)
        go_wp2_with fail
        go_quiet (fail)
        obtain ⟨W, hW⟩ : ∃ W, W = wo.drewN nq := ⟨_, rfl⟩
        rw [← hW]
        have HDr : Hid (Drawn0 wo W) := by rw [hW]; exact Drawn0.step (Drawn0.refl wo) _
        have cv1' : W.cell? ⟨gv, a, none⟩ = some (.int .u32 (gd V a)) := by rw [hW]; exact cv1
        clear hW cu0 cu1 cv1
        go_upto_block 4 with fail
        go_cut [16] (fun v16 wc => ∃ q : Int, v16 = .int .u64 q ∧ 0 ≤ q ∧ q < 4294967296 ∧ Hid (q = val Wd / val V ∨ q = val Wd / val V + 1) ∧ Hid (Drawn0 wo wc))
        case first =>
          clear cv1'
          have k0 := Guess.init HD1.out
          have kS := fun q r (h : Guess Wd V q r) => h.step HD1.out
          have kG := fun q r (h : Guess Wd V q r) => h.good HD1.out
          have kL := fun q r (h : Guess Wd V q r) => h.q_lt HD1.out
          rw [HVA.out, HNN.out] at k0
          rw [HVB.out, HVA.out] at kS
          rw [HVB.out] at kG
          have K0 := Lib.hid k0
          have KS := Lib.hid kS
          have KG := Lib.hid kG
          have KL := Lib.hid kL
          clear k0 kS kG kL
          go_wp2_with fail
          go_loopw [16, 17] (fun v16 v17 wz => ∃ q r : Int, v16 = .int .u64 q ∧ v17 = .int .u64 r ∧ 0 ≤ q ∧ q < 18446744073709551616 ∧ 0 ≤ r ∧ r < 4294967296 ∧ Hid (Guess Wd V q r) ∧ Hid (Drawn0 wo wz)) (fun _ v _ => (4294967296 - intOf v).toNat)
          case atStart =>
            have h0 := K0.out
            have hq1 : (gd Wd ys'.length * 4294967296 + gd Wd a) / gd V a < 18446744073709551616 := by
              apply Int.ediv_lt_of_lt_mul vp
              have : 18446744073709551616 * 1 ≤ 18446744073709551616 * gd V a := Int.mul_le_mul_of_nonneg_left (by omega) (by omega)
              omega
            exact ⟨_, _, rfl, rfl, h0.q0, hq1, h0.r0, by have := Int.emod_lt_of_pos (gd Wd ys'.length * 4294967296 + gd Wd a) vp; omega, h0, HDr⟩
          case round =>
            clear HDr
            obtain ⟨q, r, rfl, rfl, hq0, hq1, hr0, hr1, HGu, HDw⟩ := hrel
            have cu2' : wr.cell? ⟨gu, p2, none⟩ = some (.int .u32 (gd Wd b)) := by
              obtain ⟨nd, rfl⟩ := HDw.out
              have := (HWIN.out.drewN nd).cell b (by rw [HL1.out]; omega)
              rwa [HL2.out, HP2.out] at this
            have cv2' : wr.cell? ⟨gv, b, none⟩ = some (.int .u32 (gd V b)) := by
              obtain ⟨nd, rfl⟩ := HDw.out
              exact (HV.out.drewN nd).cell b (by rw [HNN.out]; omega)
            have cv1' : ∀ n, (wr.drewN n).cell? ⟨gv, a, none⟩ = some (.int .u32 (gd V a)) := by
              obtain ⟨nd, rfl⟩ := HDw.out
              exact fun n => (HV.out.drewN nd).cell a (by rw [HNN.out]; omega)
            have hor2 := or_join64 (a := r * 4294967296) (b := gd Wd b) (k := 32) (by omega) (by omega) (by omega) (by omega) (by omega) (Int.mul_emod_left _ _)
            by_cases hq : 4294967296 ≤ q
            · have hb1 : decide (4294967296 ≤ q) = true := by simp [hq]
              have hs := KS.out q r HGu.out (.inl hq)
              have HS := Lib.hid hs
              clear hs
              go_wp2_with fail
              go_quiet (fail)
              by_cases hrb : 4294967296 ≤ r + gd V a
              · have hb2 : decide (4294967296 ≤ r + gd V a) = true := by simp [hrb]
                go_wp2
                go_meet
                exact ⟨_, rfl, HS.out.q0, KL.out _ _ HS.out hrb, KG.out _ _ HS.out (KL.out _ _ HS.out hrb) (.inr hrb), HDw.out.step _⟩
              · have hb2 : decide (4294967296 ≤ r + gd V a) = false := by simp; omega
                go_wp2
                go_roundw
                case rel => exact ⟨_, _, rfl, rfl, HS.out.q0, by omega, HS.out.r0, by omega, HS, HDw.out.step _⟩
                case measure => simp [intOf]; omega
            · have hb1 : decide (4294967296 ≤ q) = false := by simp; omega
              have ⟨hm0, hm1⟩ := mul_bound hq0 (by omega) vn2.1 vn2.2
              by_cases hgt : r * 4294967296 + gd Wd b < q * gd V b
              · have hb3 : decide (r * 4294967296 + gd Wd b < q * gd V b) = true := by simp [hgt]
                have hs := KS.out q r HGu.out (.inr hgt)
                have hq2 : 1 ≤ q := by have := hs.q0; omega
                have HS := Lib.hid hs
                clear hs
                go_wp2_with fail
                go_quiet (fail)
                by_cases hrb : 4294967296 ≤ r + gd V a
                · have hb2 : decide (4294967296 ≤ r + gd V a) = true := by simp [hrb]
                  go_wp2
                  go_meet
                  exact ⟨_, rfl, HS.out.q0, KL.out _ _ HS.out hrb, KG.out _ _ HS.out (KL.out _ _ HS.out hrb) (.inr hrb), HDw.out.step _⟩
                · have hb2 : decide (4294967296 ≤ r + gd V a) = false := by simp; omega
                  go_wp2
                  go_roundw
                  case rel => exact ⟨_, _, rfl, rfl, HS.out.q0, by omega, HS.out.r0, by omega, HS, HDw.out.step _⟩
                  case measure => simp [intOf]; omega
              · have hb3 : decide (r * 4294967296 + gd Wd b < q * gd V b) = false := by simp; omega
                go_wp2_with fail
                go_quiet (fail)
                go_wp2
                go_meet
                exact ⟨q, rfl, hq0, by omega, KG.out _ _ HGu.out (by omega) (.inl (by omega)), HDw.out.step _⟩
        case rest =>
          clear HDr cv1' hor
          obtain ⟨q, rfl, hq0, hq1, HQu, HDw⟩ := hcut
          go_wp2_with fail
          have hgw : wo.grownBy wc (some gu) := by
            obtain ⟨nd, rfl⟩ := HDw.out
            exact only_drewN (only_refl wo _) nd
          have hwin : Win wc w.heap.size gu ku Pd Wd Td := by
            obtain ⟨nd, rfl⟩ := HDw.out
            exact HWIN.out.drewN nd
          have HGW := Lib.hid hgw
          have HWI := Lib.hid hwin
          clear hgw hwin HDw un un1 un2 vn1 vn2 vp
          go_loopw [18, 19, 20] (fun v18 v19 v20 wr => ∃ (i : Nat) (X : List Int) (c b : Int), v18 = .int .u64 b ∧ v19 = .int .u64 c ∧ v20 = .int .i64 i ∧ i ≤ ys'.length ∧ 0 ≤ c ∧ c ≤ 4294967295 ∧ 0 ≤ b ∧ b ≤ 1 ∧ Hid (MulSub Wd V q i X c b) ∧ Hid (Win wr w.heap.size gu ku Pd X Td) ∧ Hid (wo.grownBy wr (some gu))) (fun _ _ v _ => ys'.length - (intOf v).toNat)
          case atStart => exact ⟨0, Wd, 0, 0, rfl, rfl, rfl, Nat.zero_le _, by omega, by omega, by omega, by omega, MulSub.init q HD1.out.dU, HWI, HGW⟩
          case round =>
            clear HWI HGW
            obtain ⟨i, X, cr, bo, rfl, rfl, rfl, hi, hc0, hc1, hb0, hb1, HM, HWr, HGr⟩ := hrel
            by_cases hlt : i < ys'.length
            · have hv := HVD.out.gd i
              have hx := HM.out.dg.gd i
              have hcv := (HV.out.grownBlk HGr.out (Ne.symm hguv)).cell i (by rw [HNN.out]; exact hlt)
              have hxl : i < X.length := by rw [HM.out.len, HL1.out]; omega
              have hcx := HWr.out.cell' i hxl (o := i + k) (by rw [HL2.out]; omega)
              have hfx := HWr.out.own.frozen (i + k)
              have ⟨hm0, hm1⟩ := mul_bound hq0 hq1 hv.1 hv.2
              obtain ⟨pr, hpr⟩ : ∃ pr, cr + q * gd V i = pr := ⟨_, rfl⟩
              have pr0 : 0 ≤ pr := by omega
              have pr1 : pr < 18446744073709551616 := by omega
              have hand := and_low pr0 pr1
              have HXL := Lib.hid hxl
              clear hxl
              by_cases hbo : gd X i < pr % 4294967296 + bo
              · go_wp2
                go_roundw
                case rel =>
                  have hs := HM.out.step' (r := gd X i + 4294967296 - (pr % 4294967296 + bo)) (z := 1) HD1.out.dU HVD.out hq0 hq1 (by rw [HD1.out.len, HNN.out]; omega) hpr.symm (by omega) (by omega) (by omega) (by omega) (by omega)
                  have h0 := hs.c0
                  have h1 := hs.c1
                  exact ⟨i + 1, _, _, 1, rfl, rfl, by go_num, by omega, h0, h1, by omega, by omega, hs, HWr.out.set' i HXL.out _ (by rw [HL2.out]; omega), only_set HGr.out rfl _⟩
                case measure => simp [intOf]; omega
              · go_wp2
                go_roundw
                case rel =>
                  have hs := HM.out.step' (r := gd X i - (pr % 4294967296 + bo)) (z := 0) HD1.out.dU HVD.out hq0 hq1 (by rw [HD1.out.len, HNN.out]; omega) hpr.symm (by omega) (by omega) (by omega) (by omega) (by omega)
                  have h0 := hs.c0
                  have h1 := hs.c1
                  exact ⟨i + 1, _, _, 0, rfl, rfl, by go_num, by omega, h0, h1, by omega, by omega, hs, HWr.out.set' i HXL.out _ (by rw [HL2.out]; omega), only_set HGr.out rfl _⟩
                case measure => simp [intOf]; omega
            · obtain rfl : i = ys'.length := by omega
              have hx := HM.out.dg.gd ys'.length
              have hxl : ys'.length < X.length := by rw [HM.out.len, HL1.out]; omega
              have hcx := HWr.out.cell' ys'.length hxl (o := p) (by rw [HL2.out]; exact HP.out.symm)
              have hfx := HWr.out.own.frozen p
              have hM' := HM.out
              rw [← HNN.out] at hM'
              have HM' := Lib.hid hM'
              have HXL := Lib.hid hxl
              clear hM' hxl
              by_cases hbo : gd X ys'.length < cr + bo
              · have htop := HM'.out.top' (r := gd X ys'.length + 4294967296 - (cr + bo)) (z := 1) HD1.out.len (by rw [HNN.out]; omega) (by omega) (by omega)
                rw [Int.mul_one] at htop
                obtain ⟨hdW, heW⟩ := htop
                obtain ⟨hq, hr⟩ := knuth_wrong HD1.out (by exact HQu.out) hdW (by rw [List.length_set, HM.out.len, HL1.out, HNN.out]) heW
                rw [HNN.out] at hdW hr
                have hset := HWr.out.set' ys'.length HXL.out (gd X ys'.length + 4294967296 - (cr + bo)) (o := p) (by rw [HL2.out]; exact HP.out.symm)
                have hgs := only_set HGr.out (p := ⟨gu, p, none⟩) rfl (.int .u32 (gd X ys'.length + 4294967296 - (cr + bo)))
                have hlW : (X.set ys'.length (gd X ys'.length + 4294967296 - (cr + bo))).length = ys'.length + 1 := by rw [List.length_set, HM.out.len, HL1.out]
                have hq2 : 1 ≤ q := by
                  have := Int.ediv_nonneg (val_nonneg HD1.out.dU) (Int.le_of_lt HN.out.vpos)
                  omega
                have HDW := Lib.hid hdW
                have HR := Lib.hid hr
                have HS := Lib.hid hset
                have HGS := Lib.hid hgs
                have HLW := Lib.hid hlW
                have HQE := Lib.hid hq
                clear hdW heW hq hr hset hgs hlW HM HM' HXL HGr
                generalize hWdef : X.set ys'.length (gd X ys'.length + 4294967296 - (cr + bo)) = W' at *
                clear hWdef
                go_wp2_with fail
                clear HWr hcx hfx hx
                go_loopw [25, 26] (fun v25 v26 wz => ∃ (j : Nat) (Y : List Int) (c : Int), v25 = .int .u64 c ∧ v26 = .int .i64 j ∧ j ≤ ys'.length ∧ 0 ≤ c ∧ c ≤ 1 ∧ Hid (AddBack W' V j Y c) ∧ Hid (Win wz w.heap.size gu ku Pd Y Td) ∧ Hid (wo.grownBy wz (some gu))) (fun _ v _ => ys'.length - (intOf v).toNat)
                case atStart => exact ⟨0, W', 0, rfl, rfl, Nat.zero_le _, by omega, by omega, AddBack.init V HDW.out, HS, HGS⟩
                case round =>
                  clear HS HGS hbo hc0 hc1 hb0 hb1
                  obtain ⟨j, Y, cy, rfl, rfl, hj, hy0, hy1, HAB, HWz, HGz⟩ := hrel
                  obtain ⟨wy, rfl⟩ : ∃ wy : World, wy = wr := ⟨_, rfl⟩
                  by_cases hltj : j < ys'.length
                  · have hv := HVD.out.gd j
                    have hx := HAB.out.dg.gd j
                    have hcv := (HV.out.grownBlk HGz.out (Ne.symm hguv)).cell j (by rw [HNN.out]; exact hltj)
                    have hyl : j < Y.length := by rw [HAB.out.len, HLW.out]; omega
                    have hcy := HWz.out.cell' j hyl (o := j + k) (by rw [HL2.out]; omega)
                    have HYL := Lib.hid hyl
                    clear hyl
                    go_wp2_with fail
                    go_quiet (fail)
                    obtain ⟨W, hW⟩ : ∃ W, W = wy.drewN nq := ⟨_, rfl⟩
                    have HWW : Hid (Win W w.heap.size gu ku Pd Y Td) := by rw [hW]; exact HWz.out.drewN _
                    have HGW : Hid (wo.grownBy W (some gu)) := by rw [hW]; exact only_drewN HGz.out _
                    rw [← hW]
                    clear hW hcv hcy HWz HGz
                    have hfy := HWW.out.own.frozen (j + k)
                    have hcy := HWW.out.cell' j HYL.out (o := j + k) (by rw [HL2.out]; omega)
                    go_wp2
                    go_roundw
                    case rel =>
                      have hs := HAB.out.step' HDW.out HVD.out (by rw [HLW.out]; omega) rfl
                      have h0 := hs.c0
                      have h1 := hs.c1
                      exact ⟨j + 1, _, _, rfl, by go_num, by omega, h0, h1, hs, HWW.out.set' j HYL.out _ (by rw [HL2.out]; omega), only_set HGW.out rfl _⟩
                    case measure => simp [intOf]; omega
                  · obtain rfl : j = ys'.length := by omega
                    have hx := HAB.out.dg.gd ys'.length
                    have hyl : ys'.length < Y.length := by rw [HAB.out.len, HLW.out]; omega
                    have hcy := HWz.out.cell' ys'.length hyl (o := p) (by rw [HL2.out]; exact HP.out.symm)
                    have hfy := HWz.out.own.frozen p
                    have hAB := HAB.out
                    rw [← HNN.out] at hAB
                    have hm0 := Int.emod_nonneg (val Wd) (show val V ≠ 0 by have := HN.out.vpos; omega)
                    have hm1 := Int.emod_lt_of_pos (val Wd) HN.out.vpos
                    have hm2 := val_lt HVD.out
                    have hm3 := pw_le (i := V.length) (j := V.length + 1) (by omega)
                    have hRR := HR.out
                    rw [← HNN.out] at hRR
                    obtain ⟨f1, f2⟩ := hAB.final HDW.out (by rw [HLW.out, HNN.out]) hm0 (by omega) hRR
                    rw [HNN.out] at f1 f2
                    have hfin := digs_of (m := ys'.length + 1) (by rw [List.length_set, HAB.out.len, HLW.out]) f1 f2
                    have hset := HWz.out.set' ys'.length hyl ((gd Y ys'.length + cy) % 4294967296) (o := p) (by rw [HL2.out]; exact HP.out.symm)
                    rw [hfin] at hset
                    have hgs := only_set HGz.out (p := ⟨gu, p, none⟩) rfl (.int .u32 ((gd Y ys'.length + cy) % 4294967296))
                    have hQ' := HQ.out.grownBlk hgs (Ne.symm hguq)
                    have hV' := HV.out.grownBlk hgs (Ne.symm hguv)
                    have hB' := HB.out.grown hgs HB.out.size (by intro k' e; injection e with e; omega)
                    have hO1 := hQ'.cell k (by rw [HI.out.slen]; omega)
                    have hO2 := hQ'.frozen k
                    have HSET := Lib.hid hset
                    have HQ' := Lib.hid hQ'
                    have HV' := Lib.hid hV'
                    have HB' := Lib.hid hB'
                    clear hAB hm0 hm1 hm2 hm3 hRR f1 f2 hfin hset hgs hQ' hV' hB' hyl
                    go_wp2_with fail
                    go_roundw
                    case rel =>
                      obtain ⟨hst, q0, q1⟩ := HST.out
                      rw [← HQE.out] at hst
                      exact ⟨k, _, _, _, rfl, by omega, by omega, hst, HQ'.out.set k _, HSET.out.own.setOther (Ne.symm hguq) _, HV'.out.setOther (Ne.symm hgvq) _, HB'.out.setCell hbq _⟩
                    case measure => simp [intOf]
              · have htop := HM'.out.top' (r := gd X ys'.length - (cr + bo)) (z := 0) HD1.out.len (by rw [HNN.out]; omega) (by omega) (by omega)
                rw [Int.mul_zero, Int.add_zero] at htop
                obtain ⟨hdW, heW⟩ := htop
                obtain ⟨hq, hr⟩ := knuth_right HD1.out HQu.out hdW heW
                rw [HNN.out] at hdW hr
                have hdig := digs_of (m := ys'.length + 1) (by rw [List.length_set, HM.out.len, HL1.out]) hdW hr
                have hset := HWr.out.set' ys'.length HXL.out (gd X ys'.length - (cr + bo)) (o := p) (by rw [HL2.out]; exact HP.out.symm)
                rw [hdig] at hset
                have hgs := only_set HGr.out (p := ⟨gu, p, none⟩) rfl (.int .u32 (gd X ys'.length - (cr + bo)))
                have hQ' := HQ.out.grownBlk hgs (Ne.symm hguq)
                have hV' := HV.out.grownBlk hgs (Ne.symm hguv)
                have hB' := HB.out.grown hgs HB.out.size (by intro k' e; injection e with e; omega)
                have hO1 := hQ'.cell k (by rw [HI.out.slen]; omega)
                have hO2 := hQ'.frozen k
                have HSET := Lib.hid hset
                have HQ' := Lib.hid hQ'
                have HV' := Lib.hid hV'
                have HB' := Lib.hid hB'
                have HQE := Lib.hid hq
                clear hdW heW hq hr hdig hset hgs hQ' hV' hB'
                go_wp2_with fail
                go_roundw
                case rel =>
                  obtain ⟨hst, q0, q1⟩ := HST.out
                  rw [← HQE.out] at hst
                  exact ⟨k, _, _, _, rfl, by omega, by omega, hst, HQ'.out.set k _, HSET.out.own.setOther (Ne.symm hguq) _, HV'.out.setOther (Ne.symm hgvq) _, HB'.out.setCell hbq _⟩
                case measure => simp [intOf]
end Go.Proofs.Ytcmiciloiicfoaa
