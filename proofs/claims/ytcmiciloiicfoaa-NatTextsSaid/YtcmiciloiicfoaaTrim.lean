/- slices.Clone and nat.Trim: a fresh copy. -/
import Derived.Test.YtcmiciloiicfoaaMul
import Derived.WalkSpells
namespace Go.Proofs.Ytcmiciloiicfoaa
open Go.RowKit Go.Proofs.YtcmiciloiicfoaaW.PrintWords

theorem Own.lit0 (W : World) (base : Nat) (hb : base ≤ W.heap.size) (cs : Array Value) (hc : cs.size = 0) : Own (W.alloc (.cells cs 53)) base (some ⟨W.heap.size, 0, none⟩) 0 [] := by
  refine ⟨?_, by simp⟩
  have h := World.ownsRow_lit (base := base) (e := 53) (size := 1) W cs 0 hb (by unfold maxLen; omega) (by omega)
  have e : cs.toList = [] := by rw [← List.length_eq_zero_iff]; simpa using hc
  simpa [nums, e] using h

set_option maxHeartbeats 400000 in
theorem clone_calls (A : Option Addr) (c n : Nat) (xs : List Int) (w : World) (hx : Rd w A c xs) (hn : n = xs.length) :
    Calls Try.prog 76 #[.slice A n c] w (Out w xs) := by
  subst hn
  have q := fun (w : World) (a : Option Addr) (n c : Nat) => Lib.run_eql_slice_nil w 45 53 a n c 0 0 Try.underlying45
  cases A with
  | none =>
    have hc := hx.nil0 rfl
    have h0 : xs = [] := by
      have := hx.cap
      exact List.length_eq_zero_iff.1 (by omega)
    subst hc h0
    go_enter Try.func76, Try.ntmps76
    go_wp2
    go_ret
    exact Out.mk' rfl (Own.nil _ _) (Below.refl _ _)
  | some ad =>
    have HX := Lib.hid hx
    have hs := hx.small
    clear hx
    go_enter Try.func76, Try.ntmps76
    go_wp2_with (at_builtin; refine app_law w.heap.size rfl (.tmp 5) (.tmp 6) rfl _ _ _ [] rfl rfl (Own.lit0 w w.heap.size (Nat.le_refl _) #[] rfl) _ _ _ xs rfl rfl (HX.out.alloc _) (by simpa using hs) (by simp) ?_; intro R k w1 hO hg)
    go_ret
    exact Out.mk' rfl hO (((Below.refl _ _).alloc (Nat.le_refl _) _).grown hg (by simp) (Own.row (Own.lit0 w w.heap.size (Nat.le_refl _) #[] rfl)))

theorem trim_calls (A : Option Addr) (c n : Nat) (xs : List Int) (w : World) (hx : Rd w A c xs) (hn : n = xs.length) (dx : Dg xs) :
    Calls Try.prog 36 #[.slice A n c] w (Out w (canon (val xs))) := by
  subst hn
  rw [← cutL_canon dx]
  have KX := Lib.hid fun W h => cut_l A c xs.length xs W h rfl
  have HX := Lib.hid hx
  have HXc := Lib.hid hx.cutL
  clear hx dx
  generalize cutL xs = xs' at *
  go_enter Try.func36, Try.ntmps36
  go_wp2_with fail
  refine (KX.out _ HX.out).mono ?_
  rintro e w' ⟨rfl, rfl⟩
  go_wp2_with fail
  refine (clone_calls A c _ xs' _ HXc.out rfl).mono ?_
  rintro e w' ⟨R, k, rfl, hO, hB⟩
  go_wp2_with fail
  go_ret
  exact Out.mk' rfl hO hB
end Go.Proofs.Ytcmiciloiicfoaa
