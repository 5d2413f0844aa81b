/- nat.digit: one digit of a quotient; the window of the dividend becomes the remainder. -/
import Derived.Test.YtcmiciloiicfoaaLower
import Derived.Test.YtcmiciloiicfoaaKnuth
namespace Go.Proofs.Ytcmiciloiicfoaa
open Go.RowKit Go.Proofs.YtcmiciloiicfoaaW.PrintWords

/-- A window U of a list of the call's own. -/
structure Win (w : World) (base g C : Nat) (P U T : List Int) : Prop where
  own : Own w base (some ⟨g, 0, none⟩) C (P ++ (U ++ T))
theorem gd_win {P U T : List Int} {i : Nat} (h : i < U.length) : gd (P ++ (U ++ T)) (P.length + i) = gd U i := by
  rw [gd_append_right (by omega), show P.length + i - P.length = i from by omega, gd_append_left h]
theorem Win.cell {w : World} {base g C : Nat} {P U T : List Int} (h : Win w base g C P U T) (i : Nat) (hi : i < U.length) : w.cell? ⟨g, P.length + i, none⟩ = some (.int .u32 (gd U i)) := by
  rw [h.own.cell (P.length + i) (by simp; omega), gd_win hi]
theorem Win.frozen {w : World} {base g C : Nat} {P U T : List Int} (h : Win w base g C P U T) (i : Nat) : w.frozen? ⟨g, P.length + i, none⟩ = false := h.own.frozen _
theorem Win.set {w : World} {base g C : Nat} {P U T : List Int} (h : Win w base g C P U T) (i : Nat) (hi : i < U.length) (x : Int) : Win (w.setCell ⟨g, P.length + i, none⟩ (.int .u32 x)) base g C P (U.set i x) T := by
  have h1 := h.own.set (P.length + i) x
  refine ⟨?_⟩
  rw [List.set_append_right _ _ (by omega), show P.length + i - P.length = i from by omega, List.set_append_left _ _ hi] at h1
  exact h1
theorem Win.drewN {w : World} {base g C : Nat} {P U T : List Int} (h : Win w base g C P U T) (n : Nat) : Win (w.drewN n) base g C P U T := ⟨h.own.drewN n⟩
theorem only_set {a w : World} {g : Nat} (h : a.grownBy w (some g)) {p : Addr} (hp : p.block = g) (u : Value) : a.grownBy (w.setCell p u) (some g) :=
  ⟨h.os, h.tape, h.output, by simpa [World.setCell] using h.size, fun i hi hne => (Below.heap_setCell w p u i (by
    rintro rfl
    exact hne (by rw [hp]))).trans (h.block i hi hne)⟩
theorem only_drewN {a w : World} {row : Option Nat} (h : a.grownBy w row) (n : Nat) : a.grownBy (w.drewN n) row := ⟨h.os, h.tape, h.output, h.size, h.block⟩
theorem only_refl (a : World) (row : Option Nat) : a.grownBy a row := ⟨rfl, rfl, rfl, Nat.le_refl _, fun _ _ _ => rfl⟩
theorem block_add (a : Addr) (n : Nat) : (a.add n).block = a.block := by unfold Addr.add; split <;> rfl
/-- A reading lives on where one other block is written. -/
theorem Rd.far {w w1 : World} {A : Option Addr} {c g : Nat} {xs : List Int} (h : Rd w A c xs) (hg : w.grownBy w1 (some g)) (hne : ∀ ad, A = some ad → ad.block ≠ g) : Rd w1 A c xs :=
  ⟨h.cap, h.small, h.nil0, fun hn => by
    obtain ⟨ad, e, hc⟩ := h.cells hn
    exact ⟨ad, e, fun j hj => hg.cell (hc j hj) (by rw [block_add]; have := hne ad e; simpa using this)⟩⟩
theorem Rd.far2 {w wr : World} {A : Option Addr} {c g : Nat} {xs : List Int} (h : Rd w A c xs) (hg : w.grownBy wr (some g)) (hne : ∀ ad, A = some ad → ad.block ≠ g) (k : Nat) (h1 : k < xs.length) :
    ∃ ad, A = some ad ∧ wr.cell? (ad.add k) = some (.int .u32 (gd xs k)) ∧ ∀ o v, (wr.setCell ⟨g, o, none⟩ v).cell? (ad.add k) = some (.int .u32 (gd xs k)) := by
  obtain ⟨ad, e, hc⟩ := (h.far hg hne).at_ k h1
  refine ⟨ad, e, hc, fun o v => ?_⟩
  obtain ⟨ad', e', hc'⟩ := (h.far (only_set hg (p := ⟨g, o, none⟩) rfl v) hne).at_ k h1
  rw [e] at e'
  cases e'
  exact hc'

/-- What digit leaves. -/
def DigOut (w : World) (base g C : Nat) (P U T V : List Int) (e : Ending) (w' : World) : Prop :=
  e = .returned (.int .u32 (val U / val V)) ∧ Win w' base g C P (digs U.length (val U % val V)) T ∧ w.grownBy w' (some g)

set_option maxRecDepth 100000 in
set_option maxHeartbeats 1000000 in
theorem digit_calls (base g C cu d nu nv off : Nat) (B : Option Addr) (P U T V : List Int) (w : World) (hW : Win w base g C P U T) (hV : Rd w B d V) (hne : ∀ ad, B = some ad → ad.block ≠ g) (hd : Div1 U V)
    (hnu : nu = U.length) (hnv : nv = V.length) (hoff : off = P.length) (hl : V.length ≤ 16777216) (hp : P.length ≤ 16777216) :
    Calls Try.prog 100 #[.slice (some ⟨g, off, none⟩) nu cu, .slice B nv d] w (DigOut w base g C P U T V) := by
  subst hnu hnv hoff
  have HW := Lib.hid hW
  have HV := Lib.hid hV
  have HN := Lib.hid hne
  have HD := Lib.hid hd
  have k0 := Guess.init hd
  have kS := fun q r (h : Guess U V q r) => h.step hd
  have kG := fun q r (h : Guess U V q r) => h.good hd
  have kL := fun q r (h : Guess U V q r) => h.q_lt hd
  have hlen := hd.len
  have h2 := hd.two
  obtain ⟨m, hm⟩ : ∃ m, V.length = m := ⟨_, rfl⟩
  obtain ⟨a, ha⟩ : ∃ a, V.length - 1 = a := ⟨_, rfl⟩
  obtain ⟨b, hb⟩ : ∃ b, V.length - 2 = b := ⟨_, rfl⟩
  have un := hd.dU.gd m
  have un1 := hd.dU.gd a
  have un2 := hd.dU.gd b
  have vn1 := hd.dV.gd a
  have vn2 := hd.dV.gd b
  have vp := hd.pos.1
  rw [ha] at vp
  rw [ha, hm] at k0
  rw [hb, ha] at kS
  rw [hb] at kG
  have K0 := Lib.hid k0
  have KS := Lib.hid kS
  have KG := Lib.hid kG
  have KL := Lib.hid kL
  clear k0 kS kG kL
  have cu0 := hW.cell m (by omega)
  have cu1 := hW.cell a (by omega)
  obtain ⟨bd, rfl, cv1⟩ := hV.at_ a (by omega)
  have HL := Lib.hid hlen
  have HLV := Lib.hid hm
  have HA := Lib.hid ha
  have HB := Lib.hid hb
  have i1 : (m : Int) - 1 = (a : Int) := by omega
  have i2 : (m : Int) - 2 = (b : Int) := by omega
  have l1 : a < m := by omega
  have l2 : b < m := by omega
  rw [hlen, hm]
  rw [hm] at hl
  clear hW hV hne hd h2 hlen hm ha hb
  have hor := or_join64 (a := gd U m * 4294967296) (b := gd U a) (k := 32) (by omega) (by omega) (by omega) (by omega) (by omega) (Int.mul_emod_left _ _)
  go_enter Try.func100, Try.ntmps100
  go_wp2_with fail
  go_quiet (fail)
  go_wp2_with fail
  obtain ⟨W, hWW⟩ : ∃ W, W = w.drewN nq := ⟨_, rfl⟩
  rw [← hWW]
  have cv1' : W.cell? (bd.add a) = some (.int .u32 (gd V a)) := by rw [hWW]; exact cv1
  have HWW := Lib.hid hWW
  clear hWW cu0 cu1 cv1
  go_quiet (fail)
  obtain ⟨W1, hW1⟩ : ∃ W1, W1 = W.drewN nq := ⟨_, rfl⟩
  rw [← hW1]
  have hDr : Drawn0 w W1 := by
    rw [hW1, HWW.out]
    exact (Drawn0.step (Drawn0.refl w) _).step _
  have HDr := Lib.hid hDr
  clear hDr hW1 cv1' HWW
  go_upto_block 0 with fail
  go_cut [7] (fun v7 wc => ∃ q : Int, v7 = .int .u64 q ∧ 0 ≤ q ∧ q < 4294967296 ∧ Hid (q = val U / val V ∨ q = val U / val V + 1) ∧ Hid (Drawn0 w wc))
  case first =>
    go_wp2_with fail
    go_loopw [7, 8] (fun v7 v8 wr => ∃ q r : Int, v7 = .int .u64 q ∧ v8 = .int .u64 r ∧ 0 ≤ q ∧ q < 18446744073709551616 ∧ 0 ≤ r ∧ r < 4294967296 ∧ Hid (Guess U V q r) ∧ Hid (Drawn0 w wr)) (fun _ v _ => (4294967296 - intOf v).toNat)
    case atStart =>
      have h0 := K0.out
      have hq1 : (gd U m * 4294967296 + gd U a) / gd V a < 18446744073709551616 := by
        apply Int.ediv_lt_of_lt_mul vp
        have : 18446744073709551616 * 1 ≤ 18446744073709551616 * gd V a := Int.mul_le_mul_of_nonneg_left (by omega) (by omega)
        omega
      exact ⟨_, _, rfl, rfl, h0.q0, hq1, h0.r0, by have := Int.emod_lt_of_pos (gd U m * 4294967296 + gd U a) vp; omega, h0, HDr⟩
    case round =>
      obtain ⟨q, r, rfl, rfl, hq0, hq1, hr0, hr1, HG, HDw⟩ := hrel
      have cu2 := HW.out.cell b (by have := HL.out; have := HLV.out; omega)
      have cv2 : w.cell? (bd.add b) = some (.int .u32 (gd V b)) := by
        obtain ⟨bd', e, h⟩ := HV.out.at_ b (by have := HLV.out; omega)
        cases e; exact h
      have cv1 : w.cell? (bd.add a) = some (.int .u32 (gd V a)) := by
        obtain ⟨bd', e, h⟩ := HV.out.at_ a (by have := HLV.out; omega)
        cases e; exact h
      have cu2' : wr.cell? ⟨g, P.length + b, none⟩ = some (.int .u32 (gd U b)) := by
        obtain ⟨nd, rfl⟩ := HDw.out
        exact cu2
      have cv2' : wr.cell? (bd.add b) = some (.int .u32 (gd V b)) := by
        obtain ⟨nd, rfl⟩ := HDw.out
        exact cv2
      have cv1' : ∀ n, (wr.drewN n).cell? (bd.add a) = some (.int .u32 (gd V a)) := by
        obtain ⟨nd, rfl⟩ := HDw.out
        exact fun n => cv1
      clear cu2 cv2 cv1
      have hor2 := or_join64 (a := r * 4294967296) (b := gd U b) (k := 32) (by omega) (by omega) (by omega) (by omega) (by omega) (Int.mul_emod_left _ _)
      by_cases hq : 4294967296 ≤ q
      · have hb1 : decide (4294967296 ≤ q) = true := by simp [hq]
        have hs := KS.out q r HG.out (.inl hq)
        have HS := Lib.hid hs
        clear hs
        go_wp2_with fail
        go_quiet (fail)
        by_cases hrb : 4294967296 ≤ r + gd V a
        · have hb2 : decide (4294967296 ≤ r + gd V a) = true := by simp [hrb]
          go_wp2
          go_meet
          exact ⟨_, rfl, HS.out.q0, KL.out _ _ HS.out hrb, KG.out _ _ HS.out (KL.out _ _ HS.out hrb) (.inr hrb), HDw.out.step _⟩
        · have hb2 : decide (4294967296 ≤ r + gd V a) = false := by simp; omega
          go_wp2
          go_roundw
          case rel => exact ⟨_, _, rfl, rfl, HS.out.q0, by omega, HS.out.r0, by omega, HS, HDw.out.step _⟩
          case measure => simp [intOf]; omega
      · have hb1 : decide (4294967296 ≤ q) = false := by simp; omega
        have ⟨hm0, hm1⟩ := mul_bound hq0 (by omega) vn2.1 vn2.2
        by_cases hgt : r * 4294967296 + gd U b < q * gd V b
        · have hb3 : decide (r * 4294967296 + gd U b < q * gd V b) = true := by simp [hgt]
          have hs := KS.out q r HG.out (.inr hgt)
          have hq2 : 1 ≤ q := by have := hs.q0; omega
          have HS := Lib.hid hs
          clear hs
          go_wp2_with fail
          go_quiet (fail)
          by_cases hrb : 4294967296 ≤ r + gd V a
          · have hb2 : decide (4294967296 ≤ r + gd V a) = true := by simp [hrb]
            go_wp2
            go_meet
            exact ⟨_, rfl, HS.out.q0, KL.out _ _ HS.out hrb, KG.out _ _ HS.out (KL.out _ _ HS.out hrb) (.inr hrb), HDw.out.step _⟩
          · have hb2 : decide (4294967296 ≤ r + gd V a) = false := by simp; omega
            go_wp2
            go_roundw
            case rel => exact ⟨_, _, rfl, rfl, HS.out.q0, by omega, HS.out.r0, by omega, HS, HDw.out.step _⟩
            case measure => simp [intOf]; omega
        · have hb3 : decide (r * 4294967296 + gd U b < q * gd V b) = false := by simp; omega
          go_wp2_with fail
          go_quiet (fail)
          go_wp2
          go_meet
          exact ⟨q, rfl, hq0, by omega, KG.out _ _ HG.out (by omega) (.inl (by omega)), HDw.out.step _⟩
  case rest =>
    obtain ⟨q, rfl, hq0, hq1, HQ, HDw⟩ := hcut
    clear HDr
    go_wp2_with fail
    have hgw : w.grownBy wc (some g) := by
      obtain ⟨nd, rfl⟩ := HDw.out
      exact only_drewN (only_refl w _) nd
    have hwin : Win wc base g C P U T := by
      obtain ⟨nd, rfl⟩ := HDw.out
      exact HW.out.drewN nd
    have HGW := Lib.hid hgw
    have HWIN := Lib.hid hwin
    clear hgw hwin HDw
    go_loopw [9, 10, 86] (fun v9 v10 v86 wr => ∃ (i : Nat) (X : List Int) (c b : Int), v9 = .int .u64 c ∧ v10 = .int .u64 b ∧ v86 = .int .i64 i ∧ i ≤ m ∧ 0 ≤ c ∧ c ≤ 4294967295 ∧ 0 ≤ b ∧ b ≤ 1 ∧ Hid (MulSub U V q i X c b) ∧ Hid (Win wr base g C P X T) ∧ Hid (w.grownBy wr (some g))) (fun _ _ v _ => m - (intOf v).toNat)
    case atStart => exact ⟨0, U, 0, 0, rfl, rfl, rfl, Nat.zero_le _, by omega, by omega, by omega, by omega, MulSub.init q HD.out.dU, HWIN, HGW⟩
    case round =>
      clear HWIN HGW
      obtain ⟨i, X, c, bo, rfl, rfl, rfl, hi, hc0, hc1, hb0, hb1, HM, HWr, HGr⟩ := hrel
      by_cases hlt : i < m
      · have hv := HD.out.dV.gd i
        have hx := HM.out.dg.gd i
        obtain ⟨bd', ex, hcv, hcv2⟩ := HV.out.far2 HGr.out HN.out i (by have := HLV.out; omega)
        cases ex
        have hxl : i < X.length := by have := HM.out.len; have := HL.out; have := HLV.out; omega
        have hcx := HWr.out.cell i hxl
        have hfx := HWr.out.frozen i
        have ⟨hm0, hm1⟩ := mul_bound hq0 hq1 hv.1 hv.2
        have HXL := Lib.hid hxl
        clear hxl
        go_wp2
        go_roundw
        case rel =>
          have hs := HM.out.step HD.out.dU HD.out.dV hq0 hq1 (by have := HL.out; have := HLV.out; omega) rfl (u64_sub2 _ _ _)
          have h0 := hs.c0
          have h1 := hs.c1
          have h2 := hs.b0
          have h3 := hs.b1
          exact ⟨i + 1, _, _, _, rfl, rfl, by go_num, by omega, h0, h1, h2, h3, hs, HWr.out.set i HXL.out _, only_set HGr.out rfl _⟩
        case measure => simp [intOf]; omega
      · obtain rfl : i = m := by omega
        have hx := HM.out.dg.gd i
        have hxl : i < X.length := by have := HM.out.len; have := HL.out; have := HLV.out; omega
        have hcx := HWr.out.cell i hxl
        have hfx := HWr.out.frozen i
        have hM' := HM.out
        rw [← HLV.out] at hM'
        obtain ⟨t, ht⟩ : ∃ t, t = IntKind.u64.wrap (IntKind.u64.wrap (gd X i - c) - bo) := ⟨_, rfl⟩
        have htop := hM'.top (t := t) HD.out.dU HL.out (by rw [ht, u64_sub2, HLV.out])
        rw [HLV.out] at htop
        obtain ⟨hdW, heW, hz0, hz1, ht0, ht1⟩ := htop
        have hset := HWr.out.set i hxl (t % 4294967296)
        have hgs := only_set HGr.out (p := ⟨g, P.length + i, none⟩) rfl (.int .u32 (t % 4294967296))
        have hlW : (X.set i (t % 4294967296)).length = i + 1 := by rw [List.length_set, HM.out.len, HL.out, HLV.out]
        have hT := ht.symm
        have HDW := Lib.hid hdW
        have HEW := Lib.hid heW
        have HS := Lib.hid hset
        have HGS := Lib.hid hgs
        have HLW := Lib.hid hlW
        clear ht hdW heW hset hgs hlW hM' hxl
        generalize hWdef : X.set i (t % 4294967296) = W' at *
        clear hWdef
        by_cases hz : t / 9223372036854775808 = 0
        · have hb : (t / 9223372036854775808 == 0) = true := by simp [hz]
          have he := HEW.out
          rw [hz, Int.mul_zero, Int.add_zero] at he
          obtain ⟨hq, hr⟩ := knuth_right HD.out HQ.out HDW.out he
          have hdig : W' = digs U.length (val U % val V) := digs_of (by rw [HLW.out, HL.out, HLV.out]) HDW.out hr
          have HQ' := Lib.hid hq
          have HDG := Lib.hid hdig
          clear hz he hq hr hdig
          go_wp2_with fail
          go_ret
          refine ⟨ret_int HQ'.out, ?_, HGS.out⟩
          rw [← HDG.out]
          exact HS.out
        · have hb : (t / 9223372036854775808 == 0) = false := by simp [hz]
          have he := HEW.out
          have hz' : t / 9223372036854775808 = 1 := by omega
          rw [hz', Int.mul_one] at he
          obtain ⟨hq, hr⟩ := knuth_wrong HD.out (by exact HQ.out) HDW.out (by rw [HLW.out, HLV.out]) (by rw [HLV.out]; exact he)
          have hq2 : 1 ≤ q := by
            have := Int.ediv_nonneg (val_nonneg HD.out.dU) (Int.le_of_lt HD.out.vpos)
            omega
          have HQ' := Lib.hid hq
          have HR := Lib.hid hr
          clear hz hz' he hq hr HM HWr HGr
          go_wp2_with fail
          go_loopw [9, 139] (fun v9 v139 wz => ∃ (j : Nat) (Y : List Int) (c : Int), v9 = .int .u64 c ∧ v139 = .int .i64 j ∧ j ≤ i ∧ 0 ≤ c ∧ c ≤ 1 ∧ Hid (AddBack W' V j Y c) ∧ Hid (Win wz base g C P Y T) ∧ Hid (w.grownBy wz (some g))) (fun _ v _ => i - (intOf v).toNat)
          case atStart => exact ⟨0, W', 0, rfl, rfl, Nat.zero_le _, by omega, by omega, AddBack.init V HDW.out, HS, HGS⟩
          case round =>
            clear HS HGS hcx hfx hx
            obtain ⟨j, Y, cy, rfl, rfl, hj, hy0, hy1, HAB, HWz, HGz⟩ := hrel
            by_cases hltj : j < i
            · have hv := HD.out.dV.gd j
              have hx := HAB.out.dg.gd j
              obtain ⟨bd', ex, hcv, hcv2⟩ := HV.out.far2 HGz.out HN.out j (by have := HLV.out; omega)
              cases ex
              have hyl : j < Y.length := by have := HAB.out.len; have := HLW.out; omega
              have hcy := HWz.out.cell j hyl
              have hfy := HWz.out.frozen j
              have HYL := Lib.hid hyl
              clear hyl
              go_wp2
              go_roundw
              case rel =>
                have hs := HAB.out.step HDW.out HD.out.dV (by have := HLW.out; omega)
                have h0 := hs.c0
                have h1 := hs.c1
                exact ⟨j + 1, _, _, rfl, by go_num, by omega, h0, h1, hs, HWz.out.set j HYL.out _, only_set HGz.out rfl _⟩
              case measure => simp [intOf]; omega
            · obtain rfl : j = i := by omega
              have hx := HAB.out.dg.gd j
              have hyl : j < Y.length := by have := HAB.out.len; have := HLW.out; omega
              have hcy := HWz.out.cell j hyl
              have hfy := HWz.out.frozen j
              have HYL := Lib.hid hyl
              clear hyl
              go_wp2_with fail
              have hAB := HAB.out
              rw [← HLV.out] at hAB
              have hm0 := Int.emod_nonneg (val U) (show val V ≠ 0 by have := HD.out.vpos; omega)
              have hm1 := Int.emod_lt_of_pos (val U) HD.out.vpos
              have hm2 := val_lt HD.out.dV
              have hm3 := pw_le (i := V.length) (j := V.length + 1) (by omega)
              obtain ⟨f1, f2⟩ := hAB.final HDW.out (by rw [HLW.out, HLV.out]) hm0 (by omega) HR.out
              rw [HLV.out] at f1 f2
              have hfin := digs_of (m := U.length) (by rw [List.length_set, HAB.out.len, HLW.out, HL.out, HLV.out]) f1 f2
              have hset := HWz.out.set j HYL.out ((gd Y j + cy) % 4294967296)
              rw [hfin] at hset
              have HSET := Lib.hid hset
              clear hAB hm0 hm1 hm2 hm3 f1 f2 hfin hset
              go_ret
              refine ⟨ret_int HQ'.out, ?_, only_set HGz.out rfl _⟩
              exact HSET.out
end Go.Proofs.Ytcmiciloiicfoaa
