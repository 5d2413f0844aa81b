/- The walk of the law NatFresh: neither arguments nor earlier results are changed. Printed by wip/gen/natfresh.py. -/
import Derived.Test.YtcmiciloiicfoaaIn
namespace Go.Proofs.Ytcmiciloiicfoaa
open Go.RowKit Go.Proofs.YtcmiciloiicfoaaW.PrintWords

theorem below_grown0 {w w1 : World} (hg : w.grownBy w1 (Value.slice none 0 0).ownBlock) : Below w.heap.size w w1 := ⟨hg.os, hg.tape, hg.output, hg.size, fun k hk => hg.block k hk (by simp [Value.ownBlock])⟩

set_option maxRecDepth 100000 in
set_option maxHeartbeats 4000000 in
theorem natfresh_small (A B : Option Addr) (ca cb na nb : Nat) (xs ys : List Int) (w : World) (hx : Rd w A ca xs) (hy : Rd w B cb ys) (hna : na = xs.length) (hnb : nb = ys.length)
    (dx : Dg xs) (dy : Dg ys) (lx : xs.length ≤ 10) (ly : ys.length ≤ 10) :
    Calls Try.prog 6 #[.slice A na ca, .slice B nb cb] w (Yes w) := by
  subst hna hnb
  have HXa := Lib.hid hx
  have HXb := Lib.hid hy
  have HDa := Lib.hid dx
  have HDb := Lib.hid dy
  have HVa := Lib.hid (Bd.val dx lx)
  have HVb := Lib.hid (Bd.val dy ly)
  clear hx hy dx dy
  go_enter Try.func6, Try.ntmps6
  go_wp2_with fail
  refine (digits_calls A ca xs.length _ lx).mono ?_
  rintro e w' ⟨rfl, rfl⟩
  go_wp2_with fail
  refine (digits_calls B cb ys.length _ ly).mono ?_
  rintro e w' ⟨rfl, rfl⟩
  go_wp2_with (first
    | (at_builtin; refine app_law w.heap.size rfl (.const (.slice none 0 0)) (.tmp 22) rfl none 0 0 [] rfl rfl (Own.nil _ _) A ca _ xs rfl rfl HXa.out (by simp; omega) (Nat.le_refl _) ?_; intro R_1 k_1 w_1 hO_1 hg_1)
    | (at_builtin; refine app_law w.heap.size rfl (.const (.slice none 0 0)) (.tmp 24) rfl none 0 0 [] rfl rfl (Own.nil _ _) B cb _ ys rfl rfl (HXb.out.below (below_grown0 (by assumption))) (by simp; omega) (Below.size (below_grown0 (by assumption))) ?_; intro R_2 k_2 w_2 hO_2 hg_2))
  rw [List.nil_append] at hO_1 hO_2
  have hb1 := below_grown0 hg_1
  have hb2 := below_grown0 hg_2
  have HB_2 := Lib.hid (below_then hb1 hb1.size hb2)
  have Ha_2 := Lib.hid ((HXa.out.below hb1).below hb2)
  have Hb_2 := Lib.hid ((HXb.out.below hb1).below hb2)
  have Hx_2 := Lib.hid (hO_1.rd.below hb2)
  have Hy_2 := Lib.hid hO_2.rd
  clear hO_1 hO_2 hg_1 hg_2 hb1 hb2
  refine (add_calls A B ca cb _ _ (xs) (ys) _ Ha_2.out Hb_2.out rfl rfl HDa.out HDb.out (by omega) (by omega)).mono ?_
  rintro e w_3 ⟨R_3, k_3, rfl, hO, hB⟩
  have HB_3 := Lib.hid (below_then HB_2.out HB_2.out.size hB)
  have Ha_3 := Lib.hid (Ha_2.out.below hB)
  clear Ha_2
  have Hb_3 := Lib.hid (Hb_2.out.below hB)
  clear Hb_2
  have Hx_3 := Lib.hid (Hx_2.out.below hB)
  clear Hx_2
  have Hy_3 := Lib.hid (Hy_2.out.below hB)
  clear Hy_2
  have BD_3 : Hid (Bd 21 ((val xs) + (val ys))) := Lib.hid ((HVa.out.add HVb.out).to (by decide))
  have Hs_3 := Lib.hid hO.rd
  clear hO hB
  have hls := BD_3.out.len
  go_wp2_with (at_builtin; refine app_law w_3.heap.size rfl (.const (.slice none 0 0)) (.tmp 29) rfl none 0 0 [] rfl rfl (Own.nil _ _) R_3 k_3 _ (canon ((val xs) + (val ys))) rfl rfl Hs_3.out (by simp; omega) (Nat.le_refl _) ?_; intro R_4 k_4 w_4 hO hg)
  rw [List.nil_append] at hO
  have hB := below_grown0 hg
  have HB_4 := Lib.hid (below_then HB_3.out HB_3.out.size hB)
  have Ha_4 := Lib.hid (Ha_3.out.below hB)
  clear Ha_3
  have Hb_4 := Lib.hid (Hb_3.out.below hB)
  clear Hb_3
  have Hx_4 := Lib.hid (Hx_3.out.below hB)
  clear Hx_3
  have Hy_4 := Lib.hid (Hy_3.out.below hB)
  clear Hy_3
  have Hs_4 := Lib.hid (Hs_3.out.below hB)
  clear Hs_3
  have Hk_4 := Lib.hid hO.rd
  clear hO hg hB hls
  refine (trim_calls A ca _ xs _ Ha_4.out rfl HDa.out).mono ?_
  rintro e w_5 ⟨R_5, k_5, rfl, hO, hB⟩
  have HB_5 := Lib.hid (below_then HB_4.out HB_4.out.size hB)
  have HBt_5 := Lib.hid hB
  have HO_5 := Lib.hid hO
  have hln := hO.small
  clear hO hB
  go_wp2_with fail
  go_loopw [35] (fun v wr => ∃ (i : Nat) (s : List Int), v = .int .i64 i ∧ i ≤ (canon (val xs)).length ∧ Hid (s.length = (canon (val xs)).length) ∧ Hid (Own wr w_4.heap.size R_5 k_5 s) ∧ Hid (Below w_4.heap.size w_4 wr)) (fun v _ => (canon (val xs)).length - (intOf v).toNat)
  case atStart => exact ⟨0, _, rfl, Nat.zero_le _, rfl, HO_5, HBt_5⟩
  case round =>
    clear HO_5 HBt_5
    obtain ⟨i, s, rfl, hi, HL, HO, HB⟩ := hrel
    by_cases hlt : i < (canon (val xs)).length
    · obtain ⟨g, eg, hg0, hg1⟩ := HO.out.form (by have := HL.out; omega)
      cases eg
      have hO1 := HO.out.cell i (by have := HL.out; omega)
      have hO2 := HO.out.frozen i
      go_wp2
      go_roundw
      case rel => exact ⟨i + 1, _, by go_num, by omega, by show _ = _; rw [List.length_set]; exact HL.out, HO.out.set i _, HB.out.setCell hg0 _⟩
      case measure => simp [intOf]; omega
    · have hn : i = (canon (val xs)).length := by omega
      clear hn
      obtain ⟨w_6, hwe⟩ : ∃ x : World, x = wr := ⟨_, rfl⟩
      rw [← hwe] at HB ⊢
      clear hwe HO
      have HB_6 := Lib.hid (below_then HB_4.out HB_4.out.size HB.out)
      have Ha_6 := Lib.hid (Ha_4.out.below HB.out)
      clear Ha_4
      have Hb_6 := Lib.hid (Hb_4.out.below HB.out)
      clear Hb_4
      have Hx_6 := Lib.hid (Hx_4.out.below HB.out)
      clear Hx_4
      have Hy_6 := Lib.hid (Hy_4.out.below HB.out)
      clear Hy_4
      have Hs_6 := Lib.hid (Hs_4.out.below HB.out)
      clear Hs_4
      have Hk_6 := Lib.hid (Hk_4.out.below HB.out)
      clear Hk_4
      clear HB
      go_wp2_with fail
      refine (mul_calls R_3 B k_3 cb _ _ (canon ((val xs) + (val ys))) ys _ Hs_6.out Hb_6.out rfl rfl (canon_dg _) HDb.out (by have := BD_3.out.len; omega) (by omega)).mono ?_
      rintro e w_7 ⟨R_7, k_7, rfl, hO, hB⟩
      have HB_7 := Lib.hid (below_then HB_6.out HB_6.out.size hB)
      have HBt_7 := Lib.hid hB
      have HO_7 := Lib.hid hO
      have hln := hO.small
      clear hO hB
      go_wp2_with fail
      go_loopw [50] (fun v wr => ∃ (i : Nat) (s : List Int), v = .int .i64 i ∧ i ≤ (canon (val (canon ((val xs) + (val ys))) * val ys)).length ∧ Hid (s.length = (canon (val (canon ((val xs) + (val ys))) * val ys)).length) ∧ Hid (Own wr w_6.heap.size R_7 k_7 s) ∧ Hid (Below w_6.heap.size w_6 wr)) (fun v _ => (canon (val (canon ((val xs) + (val ys))) * val ys)).length - (intOf v).toNat)
      case atStart => exact ⟨0, _, rfl, Nat.zero_le _, rfl, HO_7, HBt_7⟩
      case round =>
        clear HO_7 HBt_7
        obtain ⟨i, s, rfl, hi, HL, HO, HB⟩ := hrel
        by_cases hlt : i < (canon (val (canon ((val xs) + (val ys))) * val ys)).length
        · obtain ⟨g, eg, hg0, hg1⟩ := HO.out.form (by have := HL.out; omega)
          cases eg
          have hO1 := HO.out.cell i (by have := HL.out; omega)
          have hO2 := HO.out.frozen i
          go_wp2
          go_roundw
          case rel => exact ⟨i + 1, _, by go_num, by omega, by show _ = _; rw [List.length_set]; exact HL.out, HO.out.set i _, HB.out.setCell hg0 _⟩
          case measure => simp [intOf]; omega
        · have hn : i = (canon (val (canon ((val xs) + (val ys))) * val ys)).length := by omega
          clear hn
          obtain ⟨w_8, hwe⟩ : ∃ x : World, x = wr := ⟨_, rfl⟩
          rw [← hwe] at HB ⊢
          clear hwe HO
          have HB_8 := Lib.hid (below_then HB_6.out HB_6.out.size HB.out)
          have Ha_8 := Lib.hid (Ha_6.out.below HB.out)
          clear Ha_6
          have Hb_8 := Lib.hid (Hb_6.out.below HB.out)
          clear Hb_6
          have Hx_8 := Lib.hid (Hx_6.out.below HB.out)
          clear Hx_6
          have Hy_8 := Lib.hid (Hy_6.out.below HB.out)
          clear Hy_6
          have Hs_8 := Lib.hid (Hs_6.out.below HB.out)
          clear Hs_6
          have Hk_8 := Lib.hid (Hk_6.out.below HB.out)
          clear Hk_6
          clear HB
          go_wp2_with fail
          refine (awake_calls _).mono ?_
          rintro e w_9 ⟨rfl, hB⟩
          have HB_9 := Lib.hid (below_then HB_8.out HB_8.out.size hB)
          have Ha_9 := Lib.hid (Ha_8.out.below hB)
          clear Ha_8
          have Hb_9 := Lib.hid (Hb_8.out.below hB)
          clear Hb_8
          have Hx_9 := Lib.hid (Hx_8.out.below hB)
          clear Hx_8
          have Hy_9 := Lib.hid (Hy_8.out.below hB)
          clear Hy_8
          have Hs_9 := Lib.hid (Hs_8.out.below hB)
          clear Hs_8
          have Hk_9 := Lib.hid (Hk_8.out.below hB)
          clear Hk_8
          clear hB
          go_wp2_with fail
          refine (same_calls A R_1 ca k_1 _ _ (xs) _ Ha_9.out Hx_9.out rfl rfl).mono ?_
          rintro e w_10 ⟨rfl, hD⟩
          have hB := hD.below
          have HB_10 := Lib.hid (below_then HB_9.out HB_9.out.size hB)
          have Hb_10 := Lib.hid (Hb_9.out.below hB)
          clear Hb_9
          have Hy_10 := Lib.hid (Hy_9.out.below hB)
          clear Hy_9
          have Hs_10 := Lib.hid (Hs_9.out.below hB)
          clear Hs_9
          have Hk_10 := Lib.hid (Hk_9.out.below hB)
          clear Hk_9
          clear hD hB
          go_wp2_with fail
          refine (same_calls B R_2 cb k_2 _ _ (ys) _ Hb_10.out Hy_10.out rfl rfl).mono ?_
          rintro e w_11 ⟨rfl, hD⟩
          have hB := hD.below
          have HB_11 := Lib.hid (below_then HB_10.out HB_10.out.size hB)
          have Hs_11 := Lib.hid (Hs_10.out.below hB)
          clear Hs_10
          have Hk_11 := Lib.hid (Hk_10.out.below hB)
          clear Hk_10
          clear hD hB
          go_wp2_with fail
          refine (same_calls R_3 R_4 k_3 k_4 _ _ (canon ((val xs) + (val ys))) _ Hs_11.out Hk_11.out rfl rfl).mono ?_
          rintro e w_12 ⟨rfl, hD⟩
          have hB := hD.below
          have HB_12 := Lib.hid (below_then HB_11.out HB_11.out.size hB)
          clear hD hB
          go_wp2_with fail
          go_ret
          exact ⟨rfl, HB_12.out⟩

theorem natfresh_big (A B : Option Addr) (ca cb na nb : Nat) (w : World) (ma : na ≤ 9223372036854775807) (mb : nb ≤ 9223372036854775807) (h : ¬ (na ≤ 10 ∧ nb ≤ 10)) :
    Calls Try.prog 6 #[.slice A na ca, .slice B nb cb] w (Yes w) := by
  by_cases ha : na ≤ 10
  · have hb : ¬ nb ≤ 10 := fun hb => h ⟨ha, hb⟩
    clear h
    go_enter Try.func6, Try.ntmps6
    go_wp2_with fail
    refine (digits_calls A ca na _ ha).mono ?_
    rintro e w' ⟨rfl, rfl⟩
    go_wp2_with fail
    refine (digits_no B cb nb _ hb mb).mono ?_
    rintro e w' ⟨rfl, rfl⟩
    go_wp2_with fail
    refine (awake_calls _).mono ?_
    rintro e w' ⟨rfl, hB⟩
    go_wp2_with fail
    go_ret
    exact ⟨rfl, hB⟩
  · clear h
    go_enter Try.func6, Try.ntmps6
    go_wp2_with fail
    refine (digits_no A ca na _ ha ma).mono ?_
    rintro e w' ⟨rfl, rfl⟩
    go_wp2_with fail
    refine (awake_calls _).mono ?_
    rintro e w' ⟨rfl, hB⟩
    go_wp2_with fail
    go_ret
    exact ⟨rfl, hB⟩

theorem natfresh_any (a0 : Option Addr) (len0 cap0 : Nat) (z0 : List Int) (a1 : Option Addr) (len1 cap1 : Nat) (z1 : List Int) (w : World)
    (w0 : IsRow .u32 w a0 len0 cap0 z0) (y0 : len0 * 4 ≤ 140737488351232) (w1 : IsRow .u32 w a1 len1 cap1 z1) (y1 : len1 * 4 ≤ 140737488351232) :
    Calls Try.prog 6 #[.slice a0 len0 cap0, .slice a1 len1 cap1] w fun e w' => e = .returned (.bool true) ∧ Below w.heap.size w w' := by
  by_cases h : len0 ≤ 10 ∧ len1 ≤ 10
  · obtain ⟨h0, h1⟩ := h
    obtain ⟨xs, rx, ex, dx⟩ := w0.rd (by omega)
    obtain ⟨ys, ry, ey, dy⟩ := w1.rd (by omega)
    exact natfresh_small a0 a1 cap0 cap1 len0 len1 xs ys w rx ry ex ey dx dy (by omega) (by omega)
  · exact natfresh_big a0 a1 cap0 cap1 len0 len1 w (by omega) (by omega) h
end Go.Proofs.Ytcmiciloiicfoaa
