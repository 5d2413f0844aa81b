/- The walk of the law NatTexts: Format and Parse return what is specified, and undo each other. Printed by wip/gen/nattexts.py. -/
import Derived.Test.YtcmiciloiicfoaaParse
namespace Go.Proofs.Ytcmiciloiicfoaa
open Go.RowKit Go.Proofs.YtcmiciloiicfoaaW.PrintWords

open Classical in
noncomputable def prL (l : List Int) : List Int := if Good l then canon (dvL l) else []
open Classical in
noncomputable def prE (l : List Int) : Int := if Good l then 0 else 6
theorem ParseOut.one {w w' : World} {l : List Int} {e : Ending} (h : ParseOut w l e w') : OutE w (prL l) (prE l) e w' := by
  unfold prL prE
  rcases h with ⟨hg, h⟩ | ⟨hg, h⟩
  · rw [if_pos hg, if_pos hg]; exact h
  · rw [if_neg hg, if_neg hg]; exact h
theorem fmtS_size {xs : List Int} (dx : Dg xs) (lx : xs.length ≤ 10) : (fmtS (val xs)).size ≤ 4096 := by
  have hd := decI_length dx
  unfold fmtS
  split
  · exact by decide
  · rw [strOfNums_size, List.length_reverse]; omega

set_option maxRecDepth 100000 in
set_option maxHeartbeats 4000000 in
theorem nattexts_small (A : Option Addr) (ca na : Nat) (xs : List Int) (s : ByteArray) (w : World) (hx : Rd w A ca xs) (hna : na = xs.length) (dx : Dg xs) (lx : xs.length ≤ 10) (ls : s.size ≤ 200) :
    Calls Try.prog 12 #[.slice A na ca, .string s] w (Yes w) := by
  subst hna
  have hv := val_nonneg dx
  have HXa := Lib.hid hx
  have HDa := Lib.hid dx
  have HVa := Lib.hid (Bd.val dx lx)
  have HB_0 := Lib.hid (Below.refl w.heap.size w)
  have KP1 := Lib.hid fun W => (parse_calls s W (by omega)).mono fun _ _ h => h.one
  have KP2 := Lib.hid fun W => (rparse_calls s W (by omega)).mono fun _ _ h => h.one
  have KF1 := Lib.hid fun W h => format_calls A ca xs.length xs W h rfl dx (by omega)
  have KF2 := Lib.hid fun W h => rformat_calls A ca xs.length xs W h rfl dx (by omega)
  have hcf := chs_fmtS hv
  have KP3 : Hid (∀ W, Calls Try.prog 58 #[.string (fmtS (val xs))] W (OutE W (canon (val xs)) 0)) := fun W =>
    (parse_calls (fmtS (val xs)) W (fmtS_size dx lx)).mono fun _ _ h => by
      rcases h with ⟨_, h⟩ | ⟨hg, _⟩
      · rw [hcf.2] at h; exact h
      · exact absurd hcf.1 hg
  generalize prL (chs s) = r at KP1 KP2
  generalize prE (chs s) = x at KP1 KP2
  generalize fmtS (val xs) = F at *
  clear hx dx hcf hv
  go_enter Try.func12, Try.ntmps12
  go_wp2_with fail
  refine (digits_calls A ca xs.length _ lx).mono ?_
  rintro e w' ⟨rfl, rfl⟩
  go_wp2_with fail
  refine (KP1.out _).mono ?_
  rintro e w_1 ⟨R_1, k_1, rfl, hO, hB⟩
  have HB_1 := Lib.hid (below_then HB_0.out HB_0.out.size hB)
  have Ha_1 := Lib.hid (HXa.out.below hB)
  have Hx_1 := Lib.hid hO.rd
  clear hO hB
  go_wp2_with fail
  refine (KP2.out _).mono ?_
  rintro e w_2 ⟨R_2, k_2, rfl, hO, hB⟩
  have HB_2 := Lib.hid (below_then HB_1.out HB_1.out.size hB)
  have Ha_2 := Lib.hid (Ha_1.out.below hB)
  clear Ha_1
  have Hx_2 := Lib.hid (Hx_1.out.below hB)
  clear Hx_1
  have Hy_2 := Lib.hid hO.rd
  clear hO hB
  go_wp2_with fail
  refine (KF1.out _ Ha_2.out).mono ?_
  rintro e w_3 ⟨rfl, hB⟩
  have HB_3 := Lib.hid (below_then HB_2.out HB_2.out.size hB)
  have Ha_3 := Lib.hid (Ha_2.out.below hB)
  clear Ha_2
  have Hx_3 := Lib.hid (Hx_2.out.below hB)
  clear Hx_2
  have Hy_3 := Lib.hid (Hy_2.out.below hB)
  clear Hy_2
  clear hB
  go_wp2_with fail
  refine (KP3.out _).mono ?_
  rintro e w_4 ⟨R_4, k_4, rfl, hO, hB⟩
  have HB_4 := Lib.hid (below_then HB_3.out HB_3.out.size hB)
  have Ha_4 := Lib.hid (Ha_3.out.below hB)
  clear Ha_3
  have Hx_4 := Lib.hid (Hx_3.out.below hB)
  clear Hx_3
  have Hy_4 := Lib.hid (Hy_3.out.below hB)
  clear Hy_3
  have Hz_4 := Lib.hid hO.rd
  clear hO hB
  go_wp2_with fail
  refine (awake_calls _).mono ?_
  rintro e w_5 ⟨rfl, hB⟩
  have HB_5 := Lib.hid (below_then HB_4.out HB_4.out.size hB)
  have Ha_5 := Lib.hid (Ha_4.out.below hB)
  clear Ha_4
  have Hx_5 := Lib.hid (Hx_4.out.below hB)
  clear Hx_4
  have Hy_5 := Lib.hid (Hy_4.out.below hB)
  clear Hy_4
  have Hz_5 := Lib.hid (Hz_4.out.below hB)
  clear Hz_4
  clear hB
  go_wp2_with fail
  refine (same_calls R_1 R_2 k_1 k_2 _ _ (r) _ Hx_5.out Hy_5.out rfl rfl).mono ?_
  rintro e w_6 ⟨rfl, hD⟩
  have hB := hD.below
  have HB_6 := Lib.hid (below_then HB_5.out HB_5.out.size hB)
  have Ha_6 := Lib.hid (Ha_5.out.below hB)
  clear Ha_5
  have Hz_6 := Lib.hid (Hz_5.out.below hB)
  clear Hz_5
  clear hD hB
  go_wp2_with fail
  refine (KF1.out _ Ha_6.out).mono ?_
  rintro e w_7 ⟨rfl, hB⟩
  have HB_7 := Lib.hid (below_then HB_6.out HB_6.out.size hB)
  have Ha_7 := Lib.hid (Ha_6.out.below hB)
  clear Ha_6
  have Hz_7 := Lib.hid (Hz_6.out.below hB)
  clear Hz_6
  clear hB
  go_wp2_with fail
  refine (KF2.out _ Ha_7.out).mono ?_
  rintro e w_8 ⟨rfl, hB⟩
  have HB_8 := Lib.hid (below_then HB_7.out HB_7.out.size hB)
  have Ha_8 := Lib.hid (Ha_7.out.below hB)
  clear Ha_7
  have Hz_8 := Lib.hid (Hz_7.out.below hB)
  clear Hz_7
  clear hB
  go_wp2_with fail
  refine (rtrim_calls A ca _ (xs) _ Ha_8.out rfl).mono ?_
  rintro e w_9 ⟨R_9, k_9, rfl, hO, hB⟩
  rw [cutL_canon HDa.out] at hO ⊢
  have HB_9 := Lib.hid (below_then HB_8.out HB_8.out.size hB)
  have Hz_9 := Lib.hid (Hz_8.out.below hB)
  clear Hz_8
  have Ht_9 := Lib.hid hO.rd
  clear hO hB
  go_wp2_with fail
  refine (same_calls R_4 R_9 k_4 k_9 _ _ (canon (val xs)) _ Hz_9.out Ht_9.out rfl rfl).mono ?_
  rintro e w_10 ⟨rfl, hD⟩
  have hB := hD.below
  have HB_10 := Lib.hid (below_then HB_9.out HB_9.out.size hB)
  clear hD hB
  go_wp2_with fail
  go_ret
  exact ⟨rfl, HB_10.out⟩

set_option maxRecDepth 100000 in
theorem nattexts_big (A : Option Addr) (ca na : Nat) (s : ByteArray) (w : World) (ma : na ≤ 9223372036854775807) (ms : s.size ≤ 9223372036854775807) (h : ¬ (na ≤ 10 ∧ s.size ≤ 200)) :
    Calls Try.prog 12 #[.slice A na ca, .string s] w (Yes w) := by
  by_cases ha : na ≤ 10
  · have hb : 200 < s.size := by omega
    clear h
    go_enter Try.func12, Try.ntmps12
    go_wp2_with fail
    refine (digits_calls A ca na _ ha).mono ?_
    rintro e w' ⟨rfl, rfl⟩
    go_wp2_with fail
    refine (awake_calls _).mono ?_
    rintro e w' ⟨rfl, hB⟩
    go_wp2_with fail
    go_ret
    exact ⟨rfl, hB⟩
  · clear h
    go_enter Try.func12, Try.ntmps12
    go_wp2_with fail
    refine (digits_no A ca na _ ha ma).mono ?_
    rintro e w' ⟨rfl, rfl⟩
    go_wp2_with fail
    refine (awake_calls _).mono ?_
    rintro e w' ⟨rfl, hB⟩
    go_wp2_with fail
    go_ret
    exact ⟨rfl, hB⟩

theorem nattexts_any (a0 : Option Addr) (len0 cap0 : Nat) (z0 : List Int) (a1 : ByteArray) (w : World)
    (w0 : IsRow .u32 w a0 len0 cap0 z0) (y0 : len0 * 4 ≤ 140737488351232) (w1 : a1.size ≤ 140737488351232) :
    Calls Try.prog 12 #[.slice a0 len0 cap0, .string a1] w fun e w' => e = .returned (.bool true) ∧ Below w.heap.size w w' := by
  by_cases h : len0 ≤ 10 ∧ a1.size ≤ 200
  · obtain ⟨h0, h1⟩ := h
    obtain ⟨xs, rx, ex, dx⟩ := w0.rd (by omega)
    exact nattexts_small a0 cap0 len0 xs a1 w rx ex dx (by omega) h1
  · exact nattexts_big a0 cap0 len0 a1 w (by omega) (by omega) h
end Go.Proofs.Ytcmiciloiicfoaa
