/- dspcompilerlaw01.awake: the chapter's examples. -/
import Derived.Test.YtcmiciloiicfoaaFormat
namespace Go.Proofs.Ytcmiciloiicfoaa
open Go.RowKit Go.Proofs.YtcmiciloiicfoaaW.PrintWords

theorem canon_digit {v : Int} (h0 : 0 < v) (h1 : v < 4294967296) : canon v = [v] := by
  have := canon_of (xs := [v]) (Dg.cons (by omega) h1 Dg.nil) (by intro _; simp; omega)
  rw [val_one] at this
  exact this.symm
theorem canon_two : canon 4294967296 = [0, 1] := by
  have := canon_of (xs := [0, 1]) (Dg.cons (by omega) (by omega) (Dg.cons (by omega) (by omega) Dg.nil)) (by intro _; simp)
  simpa using this.symm
theorem Own.lit2 (W : World) (base : Nat) (hb : base ≤ W.heap.size) (x y : Int) : Own (W.alloc (.cells #[.int .u32 x, .int .u32 y] 53)) base (some ⟨W.heap.size, 0, none⟩) 2 [x, y] := by
  have h := World.ownsRow_lit (base := base) (e := 53) (size := 1) W #[.int .u32 x, .int .u32 y] 2 hb (by unfold maxLen; omega) (by simp)
  exact ⟨by simpa [nums] using h, by simp⟩
theorem fmtS_two : fmtS 4294967296 = ⟨#[52, 50, 57, 52, 57, 54, 55, 50, 57, 54]⟩ := by
  unfold fmtS
  rw [if_neg (by omega)]
  have : decI 4294967296 = [54, 57, 50, 55, 54, 57, 52, 57, 50, 52] := by
    iterate 10 rw [decI_pos (by omega)]
    rfl
  rw [this]
  rfl
theorem dg1 {x : Int} (h0 : 0 ≤ x) (h1 : x < 4294967296) : Dg [x] := Dg.cons h0 h1 Dg.nil
theorem dg2 {x y : Int} (h0 : 0 ≤ x) (h1 : x < 4294967296) (g0 : 0 ≤ y) (g1 : y < 4294967296) : Dg [x, y] := Dg.cons h0 h1 (dg1 g0 g1)
theorem val_two (x y : Int) : val [x, y] = x + 4294967296 * y := by simp

/-- A law's or a test's own end: true, and nothing that was there has changed. -/
def Yes (w : World) (e : Ending) (w' : World) : Prop := e = .returned (.bool true) ∧ Below w.heap.size w w'

theorem lit1_at (W : World) (base n : Nat) (hb : base ≤ W.heap.size) (hn : n = W.heap.size) (x : Int) : Own (W.alloc (.cells #[.int .u32 x] 53)) base (some ⟨n, 0, none⟩) 1 [x] := by
  subst hn; exact Own.lit1 W base hb x
theorem lit2_at (W : World) (base n : Nat) (hb : base ≤ W.heap.size) (hn : n = W.heap.size) (x y : Int) : Own (W.alloc (.cells #[.int .u32 x, .int .u32 y] 53)) base (some ⟨n, 0, none⟩) 2 [x, y] := by
  subst hn; exact Own.lit2 W base hb x y

set_option maxRecDepth 100000 in
set_option maxHeartbeats 1000000 in
theorem awake_calls (w : World) : Calls Try.prog 29 #[] w (Yes w) := by
  go_enter Try.func29, Try.ntmps29
  go_wp2_with fail
  have h1 : Own ((w.alloc (.cells #[.int .u32 0, .int .u32 1] 53)).alloc (.cells #[.int .u32 3] 53)) w.heap.size (some ⟨w.heap.size, 0, none⟩) 2 [0, 1] := (lit2_at w _ _ (Nat.le_refl _) rfl 0 1).alloc _
  have h2 : Own ((w.alloc (.cells #[.int .u32 0, .int .u32 1] 53)).alloc (.cells #[.int .u32 3] 53)) w.heap.size (some ⟨w.heap.size + 1, 0, none⟩) 1 [3] := lit1_at _ _ _ (by simp) (by simp) 3
  refine (divmod_calls _ _ _ _ 2 1 [0, 1] [3] _ h1.rd h2.rd rfl rfl (dg2 (by omega) (by omega) (by omega) (by omega)) (dg1 (by omega) (by omega)) (by rw [val_one]; omega) (by simp)).mono ?_
  rintro e w1 ⟨Q, kq, R, kr, rfl, hQ, hR, hB⟩
  have e1 : val [0, 1] / val [3] = 1431655765 := by simp
  have e2 : val [0, 1] % val [3] = 1 := by simp
  rw [e1, canon_digit (by omega) (by omega)] at hQ ⊢
  rw [e2, canon_one] at hR ⊢
  have HB1 := Lib.hid (below_then (((Below.refl w.heap.size w).alloc (Nat.le_refl _) (.cells #[.int .u32 0, .int .u32 1] 53)).alloc (by simp) (.cells #[.int .u32 3] 53)) (by simp; omega) hB)
  have HQ1 := Lib.hid hQ.rd
  have HR1 := Lib.hid hR.rd
  clear hQ hR hB e1 e2 h1 h2
  go_wp2_with fail
  have h8 := lit1_at w1 w1.heap.size w1.heap.size (Nat.le_refl _) rfl 8
  refine (root_calls _ _ 1 2 2 [8] _ h8.rd rfl rfl (dg1 (by omega) (by omega)) (by simp) (by omega) (by omega)).mono ?_
  rintro e w2 ⟨s, hs, X, kx, rfl, hX, hB⟩
  rw [val_one] at hs
  obtain rfl : s = 2 := hs.unique (by refine ⟨by omega, ?_, ?_⟩ <;> decide)
  rw [canon_digit (v := 2) (by omega) (by omega)] at hX ⊢
  have HB2 := Lib.hid (below_then (HB1.out.alloc HB1.out.size (.cells #[.int .u32 8] 53)) (by have := HB1.out.size; simp; omega) hB)
  have HQ2 := Lib.hid ((HQ1.out.alloc (.cells #[.int .u32 8] 53)).below hB)
  have HR2 := Lib.hid ((HR1.out.alloc (.cells #[.int .u32 8] 53)).below hB)
  have HX2 := Lib.hid hX.rd
  clear hX hB hs h8 HQ1 HR1
  go_wp2_with fail
  have hl := lit1_at w2 w2.heap.size w2.heap.size (Nat.le_refl _) rfl 1431655765
  refine (same_calls _ _ _ _ 1 1 [1431655765] _ (HQ2.out.alloc _) hl.rd rfl rfl).mono ?_
  rintro e w3 ⟨rfl, hD⟩
  have HB3 := Lib.hid (below_then (HB2.out.alloc HB2.out.size (.cells #[.int .u32 1431655765] 53)) (by have := HB2.out.size; simp; omega) hD.below)
  have HR3 := Lib.hid ((HR2.out.alloc (.cells #[.int .u32 1431655765] 53)).below hD.below)
  have HX3 := Lib.hid ((HX2.out.alloc (.cells #[.int .u32 1431655765] 53)).below hD.below)
  clear hl hD HQ2 HR2 HX2
  go_wp2_with fail
  have hl := lit1_at w3 w3.heap.size w3.heap.size (Nat.le_refl _) rfl 1
  refine (same_calls _ _ _ _ 1 1 [1] _ (HR3.out.alloc _) hl.rd rfl rfl).mono ?_
  rintro e w4 ⟨rfl, hD⟩
  have HB4 := Lib.hid (below_then (HB3.out.alloc HB3.out.size (.cells #[.int .u32 1] 53)) (by have := HB3.out.size; simp; omega) hD.below)
  have HX4 := Lib.hid ((HX3.out.alloc (.cells #[.int .u32 1] 53)).below hD.below)
  clear hl hD HR3 HX3
  go_wp2_with fail
  have hl := lit1_at w4 w4.heap.size w4.heap.size (Nat.le_refl _) rfl 2
  refine (same_calls _ _ _ _ 1 1 [2] _ (HX4.out.alloc _) hl.rd rfl rfl).mono ?_
  rintro e w5 ⟨rfl, hD⟩
  have HB5 := Lib.hid (below_then (HB4.out.alloc HB4.out.size (.cells #[.int .u32 2] 53)) (by have := HB4.out.size; simp; omega) hD.below)
  clear hl hD HX4
  go_wp2_with fail
  have hl := lit2_at w5 w5.heap.size w5.heap.size (Nat.le_refl _) rfl 0 1
  refine (format_calls _ _ 2 [0, 1] _ hl.rd rfl (dg2 (by omega) (by omega) (by omega) (by omega)) (by simp)).mono ?_
  rintro e w6 ⟨rfl, hB⟩
  rw [show val [0, 1] = 4294967296 from rfl, fmtS_two]
  have HB6 := Lib.hid (below_then (HB5.out.alloc HB5.out.size (.cells #[.int .u32 0, .int .u32 1] 53)) (by have := HB5.out.size; simp; omega) hB)
  clear hl hB
  go_wp2_with fail
  have h1 : Own ((w6.alloc (.cells #[.int .u32 4294967295] 53)).alloc (.cells #[.int .u32 1] 53)) w6.heap.size (some ⟨w6.heap.size, 0, none⟩) 1 [4294967295] := (lit1_at w6 _ _ (Nat.le_refl _) rfl _).alloc _
  have h2 : Own ((w6.alloc (.cells #[.int .u32 4294967295] 53)).alloc (.cells #[.int .u32 1] 53)) w6.heap.size (some ⟨w6.heap.size + 1, 0, none⟩) 1 [1] := lit1_at _ _ _ (by simp) (by simp) 1
  refine (add_calls _ _ _ _ 1 1 [4294967295] [1] _ h1.rd h2.rd rfl rfl (dg1 (by omega) (by omega)) (dg1 (by omega) (by omega)) (by simp) (by simp)).mono ?_
  rintro e w7 ⟨S, ks, rfl, hS, hB⟩
  rw [show val [4294967295] + val [1] = 4294967296 from rfl, canon_two] at hS ⊢
  have HB7 := Lib.hid (below_then ((HB6.out.alloc HB6.out.size (.cells #[.int .u32 4294967295] 53)).alloc (by have := HB6.out.size; simp; omega) (.cells #[.int .u32 1] 53)) (by have := HB6.out.size; simp; omega) hB)
  have HS7 := Lib.hid hS.rd
  clear h1 h2 hS hB
  go_wp2_with fail
  have hl := lit2_at w7 w7.heap.size w7.heap.size (Nat.le_refl _) rfl 0 1
  refine (same_calls _ _ _ _ 2 2 [0, 1] _ (HS7.out.alloc _) hl.rd rfl rfl).mono ?_
  rintro e w8 ⟨rfl, hD⟩
  have HB8 := Lib.hid (below_then (HB7.out.alloc HB7.out.size (.cells #[.int .u32 0, .int .u32 1] 53)) (by have := HB7.out.size; simp; omega) hD.below)
  clear hl hD
  go_wp2_with fail
  go_ret
  exact ⟨rfl, HB8.out⟩
end Go.Proofs.Ytcmiciloiicfoaa
